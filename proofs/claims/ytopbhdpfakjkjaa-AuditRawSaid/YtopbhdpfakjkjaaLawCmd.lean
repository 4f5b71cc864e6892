/- Proved: what a command's test in the document's world (greenhouselaw19) answers and leaves. -/
import Derived.Test.YtopbhdpfakjkjaaLawDrop
import Derived.Test.YtopbhdpfakjkjaaAudStep
namespace Go.Proofs.Ytopbhdpfakjkjaa.Aud
open Go.RowKit Go.Proofs.Ytopbhdpfakjkjaa.Histo Go.Proofs.Ytopbhdpfakjkjaa.Event Go.Proofs.Ytopbhdpfakjkjaa.Ring
set_option linter.unusedVariables false
open Go.Proofs.Ytopbhdpfakjkjaa.MapI (AL At Rng W64 At.alloc At.drew)
/-- It may not be; or the world is so behind it. -/
def LOut (F : Nat → Prop) (w0 : World) (a b2 b3 N : Nat) (r : Option AS) (e : Ending) (w' : World) : Prop :=
  (r = none ∧ e = .returned (.bool false) ∧ Only F w0 w') ∨ ∃ s, r = some s ∧ e = .returned (.bool true) ∧ LWb F w0 a b2 b3 N s w'
theorem LOut.no {F : Nat → Prop} {w0 w' : World} {a b2 b3 N : Nat} {r : Option AS} {b : Bool} (h : r = none) (hb : b = false) (hw : Only F w0 w') : LOut F w0 a b2 b3 N r (.returned (.bool b)) w' := by subst hb; exact .inl ⟨h, rfl, hw⟩
theorem LOut.yes {F : Nat → Prop} {w0 w' : World} {a b2 b3 N : Nat} {r : Option AS} {b : Bool} {s : AS} (h : r = some s) (hb : b = true) (hw : LWb F w0 a b2 b3 N s w') : LOut F w0 a b2 b3 N r (.returned (.bool b)) w' := by subst hb; exact .inr ⟨s, h, rfl, hw⟩
theorem LWb.mono {F : Nat → Prop} {w0 w : World} {a b2 b3 N M : Nat} {s : AS} (h : LWb F w0 a b2 b3 N s w) (hm : N ≤ M) : LWb F w0 a b2 b3 M s w :=
  ⟨h.row, h.m2.mono hm, h.m3.mono hm, h.d23, h.below, h.hF, h.na, Nat.le_trans h.len hm, h.srt, h.wf, h.sz, h.me⟩
theorem LWb.drewN {F : Nat → Prop} {w0 w : World} {a b2 b3 N : Nat} {s : AS} (h : LWb F w0 a b2 b3 N s w) (n : Nat) : LWb F w0 a b2 b3 N s (w.drewN n) := h.next (below_drewN (Below.refl _ _) n)
/-- What lies at a sandbox's place. -/
theorem LWb.at {F : Nat → Prop} {w0 w : World} {a b2 b3 N : Nat} {s : AS} (h : LWb F w0 a b2 b3 N s w) {i : Nat} {t : Th} (ht : s.boxes[i]? = some t) :
    ∃ g cap, Blk w a 82 #[.slice (some ⟨g, 0, none⟩) s.boxes.length cap, .map (some b2), .map (some b3), .int .i64 s.next] ∧ s.boxes.length ≤ cap ∧ g < w.heap.size ∧ w.cell? ⟨g, i * 5, none⟩ = some (.int .i64 t.id) ∧ w.cell? ⟨g, i * 5 + 1, none⟩ = some (.int .i64 t.fn) ∧ w.cell? ⟨g, i * 5 + 2, none⟩ = some (.int .i64 t.host) ∧ w.cell? ⟨g, i * 5 + 3, none⟩ = some (.bool t.boots) ∧ w.cell? ⟨g, i * 5 + 4, none⟩ = some (.bool t.busy) := by
  obtain ⟨v, ha, hrow, _⟩ := h.row
  obtain ⟨ad, cap, rfl, hcap, hcell⟩ := row_open hrow
  obtain ⟨g, rfl, hg, e0, _⟩ := hcell (i * 5 + 0) (.int .i64 t.id) (by rw [rowL_get ht (by omega)]; rfl)
  obtain ⟨g1, hg1, _, e1, _⟩ := hcell (i * 5 + 1) (.int .i64 t.fn) (by rw [rowL_get ht (by omega)]; rfl)
  obtain ⟨g2, hg2, _, e2, _⟩ := hcell (i * 5 + 2) (.int .i64 t.host) (by rw [rowL_get ht (by omega)]; rfl)
  obtain ⟨g3, hg3, _, e3, _⟩ := hcell (i * 5 + 3) (.bool t.boots) (by rw [rowL_get ht (by omega)]; rfl)
  obtain ⟨g4, hg4, _, e4, _⟩ := hcell (i * 5 + 4) (.bool t.busy) (by rw [rowL_get ht (by omega)]; rfl)
  cases hg1; cases hg2; cases hg3; cases hg4
  exact ⟨g, cap, ha, hcap, hg, e0, e1, e2, e3, e4⟩
abbrev CALLW (a : Nat) (c : Cmd) (w : World) (Q : Ending → World → Prop) := Calls Try.prog 52 #[.pointer (some ⟨a, 0, none⟩), .agg #[.bool c.boot, .int .i64 c.box, .int .i64 c.fn, .int .i64 c.host]] w Q
set_option maxHeartbeats 4000000 in
set_option maxRecDepth 100000 in
theorem lkill_all (F : Nat → Prop) (w0 : World) (a b2 b3 N : Nat) (s : AS) (cx cf ch : Int) (w : World) (hA : LWb F w0 a b2 b3 N s w) (hN : N ≤ 100000) : CALLW a ⟨false, cx, cf, ch⟩ w (LOut F w0 a b2 b3 N (s.command ⟨false, cx, cf, ch⟩)) := by
  unfold CALLW
  simp only
  have hA1 := hA.next ((Below.refl _ _).alloc (Nat.le_refl _) (.cells #[.bool false, .int .i64 cx, .int .i64 cf, .int .i64 ch] 59))
  have hC1 := Blk.new w 59 #[.bool false, .int .i64 cx, .int .i64 cf, .int .i64 ch]
  obtain ⟨g, hg⟩ : ∃ g, g = w.heap.size := ⟨_, rfl⟩
  rw [← hg] at hC1
  go_enter Try.func52, Try.ntmps52
  go_wp2_with fail
  rw [← hg]
  generalize w.alloc _ = W at hA1 hC1 ⊢
  clear hA hg
  have cc1 := hC1.cell 1
  have HA1 := Lib.hid hA1
  have HC1 := Lib.hid hC1
  clear hA1 hC1
  go_wp2_with fail
  refine (lfind_any F w0 a b2 b3 N s cx W HA1.out hN).mono ?_
  rintro e1 w1 ⟨rfl, hb1⟩
  have HA := Lib.hid (HA1.out.next hb1)
  have hC := HC1.out.below hb1 HC1.out.lt
  clear hb1 HA1 HC1 cc1
  have cc0 := hC.cell 0
  have cc1 := hC.cell 1
  have cc2 := hC.cell 2
  have cc3 := hC.cell 3
  clear hC
  cases hf : s.find cx with
  | none =>
    rw [idx_none cx _ _ hf]
    have hcm : s.command ⟨false, cx, cf, ch⟩ = none := by unfold AS.command; rw [if_pos rfl]; simp only [hf]
    have HCM := Lib.hid hcm
    clear hf hcm
    go_wp2
    go_quiet (fail)
    go_wp2
    go_ret
    exact LOut.no HCM.out rfl (HA.out.below.drewN _)
  | some t =>
    obtain ⟨i, hx, ht, hil, hid⟩ := idx_some cx _ 0 t hf
    have hcm : s.command ⟨false, cx, cf, ch⟩ = if t.busy = true ∨ t.fn ≠ cf ∨ t.host ≠ ch then none else some (s.drop cx) := by unfold AS.command; rw [if_pos rfl]; simp only [hf]
    rw [hx, Int.zero_add]
    obtain ⟨ga, cap, ha, hcap, _, e0, e1, e2, e3, e4⟩ := HA.out.at ht
    obtain ⟨n, hn⟩ : ∃ n, n = s.boxes.length := ⟨_, rfl⟩
    rw [← hn] at ha hcap hil
    have ca0 := ha.cell 0
    have i0' : (0 : Int) ≤ (i : Int) := by omega
    have i1 : (i : Int) < (n : Int) := by omega
    have i2 : decide ((i : Int) < 0) = false := decide_eq_false (by omega)
    have HT := Lib.hid (And.intro ht hid)
    have HCAP := Lib.hid hcap
    clear hf hx hn ha hcap e0 e3 ht hid
    by_cases h1 : t.busy = true
    · have HCM := Lib.hid (hcm.trans (if_pos (.inl h1)))
      rw [h1] at e4
      clear h1 hcm
      go_wp2
      go_quiet (fail)
      go_wp2
      go_ret
      exact LOut.no HCM.out rfl (HA.out.below.drewN _)
    rw [Bool.not_eq_true] at h1
    rw [h1] at e4
    by_cases h2 : t.fn = cf
    rotate_left
    · have HCM := Lib.hid (hcm.trans (if_pos (.inr (.inl h2))))
      have q : (t.fn == cf) = false := beq_eq_false_iff_ne.2 h2
      have q' : (t.fn != cf) = true := by simp [bne, q]
      clear h1 h2 hcm
      go_wp2
      go_quiet (fail)
      go_wp2
      go_ret
      exact LOut.no HCM.out rfl (HA.out.below.drewN _)
    have q : (t.fn == cf) = true := by simp [h2]
    have q' : (t.fn != cf) = false := by simp [bne, q]
    by_cases h3 : t.host = ch
    rotate_left
    · have HCM := Lib.hid (hcm.trans (if_pos (.inr (.inr h3))))
      have p : (t.host == ch) = false := beq_eq_false_iff_ne.2 h3
      have p' : (t.host != ch) = true := by simp [bne, p]
      clear h1 h2 h3 hcm
      go_wp2
      go_quiet (fail)
      go_wp2
      go_ret
      exact LOut.no HCM.out rfl (HA.out.below.drewN _)
    have p : (t.host == ch) = true := by simp [h3]
    have p' : (t.host != ch) = false := by simp [bne, p]
    have HCM := Lib.hid (hcm.trans (if_neg (by rintro (h | h | h); rw [h1] at h; cases h; exact h h2; exact h h3)))
    clear h1 h2 h3 hcm
    go_wp2
    go_quiet (fail)
    clear ca0 e1 e2 e4 cc0 cc1 cc2 cc3
    generalize hgen : w1.drewN _ = W2
    have hA2 : LWb F w0 a b2 b3 N s W2 := by rw [← hgen]; exact HA.out.drewN _
    clear hgen HA
    have HA := Lib.hid hA2
    clear hA2
    go_wp2_with fail
    refine (ldrop_any F w0 a b2 b3 N s i t W2 HA.out hN HT.out.1).mono ?_
    rintro e w2 ⟨rfl, hd⟩
    rw [HT.out.2] at hd
    have HD := Lib.hid hd
    clear hd
    go_wp2
    go_ret
    exact LOut.yes HCM.out rfl HD.out
end Go.Proofs.Ytopbhdpfakjkjaa.Aud
