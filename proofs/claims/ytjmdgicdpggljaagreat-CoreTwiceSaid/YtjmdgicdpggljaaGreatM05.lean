/- Proved: what policy.Of, and the law's own Of, answer of a histogram, and of the numbers that came last. -/
import Derived.Test.YtjmdgicdpggljaaGreatM04
import Derived.Test.YtjmdgicdpggljaaGreatM01
import Derived.Test.YtjmdgicdpggljaaGreatM03
import Derived.Test.YtjmdgicdpggljaaGreatProg
import Derived.WalkKit
import Derived.WalkLawsBesides
import Derived.WalkSpells
import Derived.Lib.Hide
import Derived.IntWalk
import Derived.Deep.Draws
import Derived.Deep.OwnRows
import Derived.Laws.AppendOwn
import Derived.Laws.Rows
import Derived.RegionTactic
import Derived.ChangeAlike
import Derived.Deep.QuietTactic
import Derived.BigQuiet
import Derived.Test.YtjmdgicdpggljaaGreatM02
set_option linter.all false
namespace Go.Proofs.YtjmdgicdpggljaaGreat.Policy
open Go.RowKit Go.Proofs.YtjmdgicdpggljaaGreat.Histo Go.Proofs.YtjmdgicdpggljaaGreat.Ring Go.Proofs.YtjmdgicdpggljaaGreat.Cast
set_option linter.unusedVariables false

/-- A window. -/
structure Win where
  how : Int
  pre : Int
  fin : Int
def Win.val (x : Win) : Value := .agg #[.int .i64 x.how, .int .i64 x.pre, .int .i64 x.fin]
def wfix : Win := ⟨0, 0, 10⟩
def wcast (x : Int) : Win := ⟨2, x * 85 / 100, max ((x * 115 + 99) / 100) (x * 85 / 100 + 1)⟩
def whist (a b : Int) : Win := ⟨1, a * 9 / 10, (b * 11 + 20) / 10⟩
noncomputable def win (s : S) (ts : List Int) : Win :=
  if s.a + s.o < 4 then wfix else if s.a + s.o < 2 * s.o then wcast (nx (last8 ts)) else if s.spread = false then wfix else whist (s.cut 5) (s.cut 99)
def RetW (x : Win) (w : World) (e : Ending) (w' : World) : Prop := e = .returned x.val ∧ Below w.heap.size w w'
theorem RetW.mk {x : Win} {v : Value} {w w' : World} (h : v = x.val) (hw : Below w.heap.size w w') : RetW x w (.returned v) w' := by subst h; exact ⟨rfl, hw⟩

theorem fixed_any (w : World) : Calls Tryz.prog 133 #[] w (RetW wfix w) := by
  go_enter Tryz.func133, Tryz.ntmps133
  go_wp2
  exact bodyPost_ret (v := wfix.val) (by simp [results, Tryz.results133, go_sem, Win.val, wfix]) rfl ⟨rfl, (Below.refl _ _).alloc (Nat.le_refl _) _⟩

theorem frac_small {n up down : Int} (h0 : 0 ≤ n) (h1 : 0 ≤ up) (h2 : 0 < down) (h3 : n * up ≤ 4611686018427387904) (h4 : 0 ≤ n * up) : Num.frac n up down = n * up / down := by
  unfold Num.frac
  rw [if_neg (by omega)]
  have a := Int.ediv_nonneg h4 (show 0 ≤ down by omega)
  have b : n * up / down ≤ n * up := Int.ediv_le_self _ h4
  exact Num.sat_id ⟨by omega, by omega⟩
theorem fracUp_small {n up down : Int} (h0 : 0 ≤ n) (h1 : 0 ≤ up) (h2 : 0 < down) (h3 : n * up + down - 1 ≤ 4611686018427387904) (h4 : 0 ≤ n * up) : Num.fracUp n up down = (n * up + down - 1) / down := by
  unfold Num.fracUp
  rw [if_neg (by omega)]
  have a := Int.ediv_nonneg (show 0 ≤ n * up + down - 1 by omega) (show 0 ≤ down by omega)
  have b : (n * up + down - 1) / down ≤ n * up + down - 1 := Int.ediv_le_self _ (by omega)
  exact Num.sat_id ⟨by omega, by omega⟩

theorem ahead_any (x : Int) (w : World) (h0 : 0 ≤ x) (h1 : x ≤ 1099511627776) : Calls Tryz.prog 134 #[.int .i64 x] w (RetW (wcast x) w) := by
  have C1 := fun w => Num.frac_any x 85 100 w ⟨by omega, by omega⟩ ⟨by omega, by omega⟩ ⟨by omega, by omega⟩
  have C2 := fun w => Num.fracUp_any x 115 100 w ⟨by omega, by omega⟩ ⟨by omega, by omega⟩ ⟨by omega, by omega⟩
  rw [frac_small h0 (by omega) (by omega) (by omega) (by omega)] at C1
  rw [fracUp_small h0 (by omega) (by omega) (by omega) (by omega)] at C2
  have hv : (wcast x).val = .agg #[.int .i64 2, .int .i64 (x * 85 / 100), .int .i64 (max ((x * 115 + 100 - 1) / 100) (x * 85 / 100 + 1))] := by
    unfold Win.val wcast
    rw [show x * 115 + 99 = x * 115 + 100 - 1 by omega]
  obtain ⟨p, hp⟩ : ∃ p, p = x * 85 / 100 := ⟨_, rfl⟩
  obtain ⟨q, hq⟩ : ∃ p, p = (x * 115 + 100 - 1) / 100 := ⟨_, rfl⟩
  rw [← hp] at C1 hv
  rw [← hq] at C2 hv
  have hp0 : 0 ≤ p := by omega
  have hp1 : p ≤ 1099511627776 := by omega
  have hq0 : 0 ≤ q := by omega
  have hq1 : q ≤ 10995116277760 := by omega
  have HC1 := Lib.hid C1
  have HC2 := Lib.hid C2
  have HV := Lib.hid hv
  clear C1 C2 hv hp hq
  go_enter Tryz.func134, Tryz.ntmps134
  go_wp2_with fail
  generalize hW : w.alloc _ = W
  have hb : Below w.heap.size w W := by rw [← hW]; exact (Below.refl _ _).alloc (Nat.le_refl _) _
  have hB : Blk W w.heap.size 151 #[.int .i64 0, .int .i64 0, .int .i64 0] := by rw [← hW]; exact Blk.new _ _ _
  obtain ⟨r, hr⟩ : ∃ r, r = w.heap.size := ⟨_, rfl⟩
  rw [← hr] at hB ⊢
  have HR := Lib.hid hr
  have HW_ := Lib.hid hb
  have HB := Lib.hid hB
  clear hW hr hb hB
  refine (HC1.out W).mono ?_
  rintro e w' ⟨rfl, n1, rfl⟩
  go_wp2_with fail
  refine (HC2.out _).mono ?_
  rintro e w' ⟨rfl, n2, rfl⟩
  have hB2 : Blk ((W.drewN n1).drewN n2) r 151 #[.int .i64 0, .int .i64 0, .int .i64 0] := HB.out
  have hb2 : Below w.heap.size w ((W.drewN n1).drewN n2) := below_drewN (below_drewN HW_.out _) _
  generalize (W.drewN n1).drewN n2 = W2 at hB2 hb2 ⊢
  have c0 : W2.cell? ⟨r, 0, none⟩ = some (.int .i64 0) := hB2.cell 0
  have c1 : W2.cell? ⟨r, 1, none⟩ = some (.int .i64 0) := hB2.cell 1
  have c2 : W2.cell? ⟨r, 2, none⟩ = some (.int .i64 0) := hB2.cell 2
  have f0 := hB2.frozen 0
  have f1 := hB2.frozen 1
  have f2 := hB2.frozen 2
  have HB2 := Lib.hid hb2
  clear hB2 hb2
  go_wp2
  exact bodyPost_ret (v := .agg #[.int .i64 2, .int .i64 p, .int .i64 (max q (p + 1))]) (by simp [results, Tryz.results134, go_sem, c0, c1, c2]) rfl (RetW.mk HV.out.symm (((HB2.out.setCell (by rw [HR.out]; exact Nat.le_refl _) _).setCell (by rw [HR.out]; exact Nat.le_refl _) _).setCell (by rw [HR.out]; exact Nat.le_refl _) _))

/-- The result's block, and all that was. -/
structure RS (w : World) (r : Nat) (W : World) : Prop where
  b : Blk W r 151 #[.int .i64 0, .int .i64 0, .int .i64 0]
  below : Below w.heap.size w W
  r : r = w.heap.size
theorem RS.start (w : World) : RS w w.heap.size (w.alloc (.cells #[.int .i64 0, .int .i64 0, .int .i64 0] 151)) := ⟨Blk.new _ _ _, (Below.refl _ _).alloc (Nat.le_refl _) _, rfl⟩
theorem RS.drewN {w W : World} {r : Nat} (h : RS w r W) (n : Nat) : RS w r (W.drewN n) := ⟨h.b.drewN n, below_drewN h.below n, h.r⟩
theorem RS.next {w W W' : World} {r : Nat} (h : RS w r W) (hb : Below W.heap.size W W') : RS w r W' := ⟨h.b.below hb h.b.lt, h.below.trans (hb.mono (by have := h.below.size; omega)), h.r⟩
theorem RS.three {w W : World} {r : Nat} (h : RS w r W) (a b c : Value) : Below w.heap.size w (((W.setCell ⟨r, 0, none⟩ a).setCell ⟨r, 1, none⟩ b).setCell ⟨r, 2, none⟩ c) :=
  ((h.below.setCell (by rw [h.r]; exact Nat.le_refl _) _).setCell (by rw [h.r]; exact Nat.le_refl _) _).setCell (by rw [h.r]; exact Nat.le_refl _) _
theorem RS.facts {w W : World} {r : Nat} (h : RS w r W) : W.cell? ⟨r, 0, none⟩ = some (.int .i64 0) ∧ W.cell? ⟨r, 1, none⟩ = some (.int .i64 0) ∧ W.cell? ⟨r, 2, none⟩ = some (.int .i64 0) ∧ W.frozen? ⟨r, 0, none⟩ = false ∧ W.frozen? ⟨r, 1, none⟩ = false ∧ W.frozen? ⟨r, 2, none⟩ = false :=
  ⟨h.b.cell 0, h.b.cell 1, h.b.cell 2, h.b.frozen 0, h.b.frozen 1, h.b.frozen 2⟩

set_option maxHeartbeats 2000000 in
theorem of_few (g k : Nat) (s : S) (ts : List Int) (w : World) (hg : Blk w g 170 s.cells) (ok : Ok s) (hr : Rg w k ts) (h : s.a + s.o < 4) : Calls Tryz.prog 113 #[.pointer (some ⟨g, 0, none⟩), .pointer (some ⟨k, 0, none⟩)] w (RetW wfix w) := by
  have hcell : Blk w g 170 (hc s.bs s.a s.o) := hg
  have hlg := hg.lt
  have a0 := ok.a0
  have o0 := ok.over
  have few := ok.few
  obtain ⟨a, ha⟩ : ∃ a, a = s.a := ⟨_, rfl⟩
  obtain ⟨o, ho⟩ : ∃ a, a = s.o := ⟨_, rfl⟩
  have CI : ∀ W : World, Below w.heap.size w W → ∀ n, Calls Tryz.prog 131 #[.pointer (some ⟨g, 0, none⟩)] (W.drewN n) (RetI a (W.drewN n)) := fun W hb n => by rw [ha]; exact in_any g s.bs s.a s.o _ ((hcell.below hb hlg).drewN n) ok.len
  have CO : ∀ W : World, Below w.heap.size w W → ∀ n, Calls Tryz.prog 132 #[.pointer (some ⟨g, 0, none⟩)] (W.drewN n) (RetI o (W.drewN n)) := fun W hb n => by rw [ho]; exact over_any g s.bs s.a s.o _ ((hcell.below hb hlg).drewN n) ok.len
  rw [← ha, ← ho] at few
  rw [← ha] at a0
  rw [← ho] at o0
  have HA := Lib.hid ha
  have HO := Lib.hid ho
  have HCI := Lib.hid CI
  have HCO := Lib.hid CO
  have HOK := Lib.hid ok
  have HG := Lib.hid hg
  have HLG := Lib.hid hlg
  clear ha ho CI CO ok hcell hg hlg
  rw [← HA.out, ← HO.out] at h
  clear few hr
  go_enter Tryz.func113, Tryz.ntmps113
  go_wp2_with fail
  generalize hW : w.alloc _ = W
  have hS : RS w w.heap.size W := by rw [← hW]; exact RS.start w
  obtain ⟨r, hr⟩ : ∃ r, r = w.heap.size := ⟨_, rfl⟩
  rw [← hr] at hS ⊢
  have HS := Lib.hid hS
  clear hW hr hS
  refine (HCI.out W HS.out.below 0).mono ?_
  rintro e w' ⟨rfl, n1, rfl⟩
  go_wp2_with fail
  refine (HCO.out W HS.out.below _).mono ?_
  rintro e w' ⟨rfl, n2, rfl⟩
  go_wp2_with fail
  generalize hg2 : W.drewN _ = W2
  have HS2 := Lib.hid (show RS w r W2 by rw [← hg2]; exact HS.out.drewN _)
  clear hg2
  refine (fixed_any _).mono ?_
  intro e w9 hx
  have HS9 := Lib.hid (HS2.out.next hx.2)
  obtain ⟨rfl, -⟩ := hx
  unfold Win.val wfix
  obtain ⟨c0, c1, c2, f0, f1, f2⟩ := HS9.out.facts
  go_wp2
  exact bodyPost_ret (v := .agg #[.int .i64 0, .int .i64 0, .int .i64 10]) (by simp [results, Tryz.results113, go_sem, c0, c1, c2]) rfl (RetW.mk rfl (HS9.out.three _ _ _))

set_option maxHeartbeats 2000000 in
theorem of_far (g k : Nat) (s : S) (ts : List Int) (w : World) (hg : Blk w g 170 s.cells) (ok : Ok s) (hr : Rg w k ts) (h : 4 ≤ s.a + s.o) (h2 : s.a + s.o < 2 * s.o) : Calls Tryz.prog 113 #[.pointer (some ⟨g, 0, none⟩), .pointer (some ⟨k, 0, none⟩)] w (RetW (wcast (nx (last8 ts))) w) := by
  have CL : ∀ W : World, Below w.heap.size w W → Calls Tryz.prog 136 #[.pointer (some ⟨k, 0, none⟩)] W (Made (· = last8 ts) W) := fun W hb => list_any k ts W (hr.below hb hr.lt)
  have HCL := Lib.hid CL
  clear CL hr
  have hcell : Blk w g 170 (hc s.bs s.a s.o) := hg
  have hlg := hg.lt
  have a0 := ok.a0
  have o0 := ok.over
  have few := ok.few
  obtain ⟨a, ha⟩ : ∃ a, a = s.a := ⟨_, rfl⟩
  obtain ⟨o, ho⟩ : ∃ a, a = s.o := ⟨_, rfl⟩
  have CI : ∀ W : World, Below w.heap.size w W → ∀ n, Calls Tryz.prog 131 #[.pointer (some ⟨g, 0, none⟩)] (W.drewN n) (RetI a (W.drewN n)) := fun W hb n => by rw [ha]; exact in_any g s.bs s.a s.o _ ((hcell.below hb hlg).drewN n) ok.len
  have CO : ∀ W : World, Below w.heap.size w W → ∀ n, Calls Tryz.prog 132 #[.pointer (some ⟨g, 0, none⟩)] (W.drewN n) (RetI o (W.drewN n)) := fun W hb n => by rw [ho]; exact over_any g s.bs s.a s.o _ ((hcell.below hb hlg).drewN n) ok.len
  rw [← ha, ← ho] at few
  rw [← ha] at a0
  rw [← ho] at o0
  have HA := Lib.hid ha
  have HO := Lib.hid ho
  have HCI := Lib.hid CI
  have HCO := Lib.hid CO
  have HOK := Lib.hid ok
  have HG := Lib.hid hg
  have HLG := Lib.hid hlg
  clear ha ho CI CO ok hcell hg hlg
  rw [← HA.out, ← HO.out] at h h2
  have hn4 : ¬ a + o < 4 := by omega
  have hx := nx_bd (last8 ts) (last8_len ts)
  go_enter Tryz.func113, Tryz.ntmps113
  go_wp2_with fail
  generalize hW : w.alloc _ = W
  have hS : RS w w.heap.size W := by rw [← hW]; exact RS.start w
  obtain ⟨r, hr⟩ : ∃ r, r = w.heap.size := ⟨_, rfl⟩
  rw [← hr] at hS ⊢
  have HS := Lib.hid hS
  clear hW hr hS
  refine (HCI.out W HS.out.below 0).mono ?_
  rintro e w' ⟨rfl, n1, rfl⟩
  go_wp2_with fail
  refine (HCO.out W HS.out.below _).mono ?_
  rintro e w' ⟨rfl, n2, rfl⟩
  go_wp2_with fail
  refine (HCO.out W HS.out.below _).mono ?_
  rintro e w' ⟨rfl, n3, rfl⟩
  go_wp2_with fail
  generalize hg2 : W.drewN _ = W2
  have HS2 := Lib.hid (show RS w r W2 by rw [← hg2]; exact HS.out.drewN _)
  clear hg2
  refine (HCL.out W2 HS2.out.below).mono ?_
  rintro e w3 ⟨v, xs, rfl, rfl, hown, hb3⟩
  have HS3 := Lib.hid (HS2.out.next hb3)
  have CN := next_any v (last8 ts) w3 (Sl.of_own hown)
  rw [last8_small (last8_len ts)] at CN
  obtain ⟨x, hxe⟩ : ∃ x, x = nx (last8 ts) := ⟨_, rfl⟩
  rw [← hxe] at CN hx
  have HCN := Lib.hid CN
  have HXE := Lib.hid hxe
  clear hown hb3 CN hxe
  go_wp2_with fail
  refine (HCN.out).mono ?_
  rintro e w' ⟨rfl, n4, rfl⟩
  go_wp2_with fail
  generalize hg4 : w3.drewN _ = W4
  have HS4 := Lib.hid (show RS w r W4 by rw [← hg4]; exact HS3.out.drewN _)
  clear hg4
  refine (ahead_any x W4 hx.1 hx.2).mono ?_
  intro e w9 hx
  have HS9 := Lib.hid (HS4.out.next hx.2)
  obtain ⟨rfl, -⟩ := hx
  unfold Win.val wcast
  simp only
  generalize hv : max ((x * 115 + 99) / 100) (x * 85 / 100 + 1) = q
  generalize hv2 : x * 85 / 100 = p at hv ⊢
  have HV := Lib.hid hv
  have HV2 := Lib.hid hv2
  clear hv hv2
  obtain ⟨c0, c1, c2, f0, f1, f2⟩ := HS9.out.facts
  go_wp2
  exact bodyPost_ret (v := .agg #[.int .i64 2, .int .i64 p, .int .i64 q]) (by simp [results, Tryz.results113, go_sem, c0, c1, c2]) rfl (RetW.mk (by rw [← HXE.out, ← HV.out, ← HV2.out]; rfl) (HS9.out.three _ _ _))

set_option maxHeartbeats 2000000 in
theorem of_flat (g k : Nat) (s : S) (ts : List Int) (w : World) (hg : Blk w g 170 s.cells) (ok : Ok s) (hr : Rg w k ts) (h : 4 ≤ s.a + s.o) (h2 : ¬ s.a + s.o < 2 * s.o) (h3 : s.spread = false) : Calls Tryz.prog 113 #[.pointer (some ⟨g, 0, none⟩), .pointer (some ⟨k, 0, none⟩)] w (RetW wfix w) := by
  clear hr
  have hcell : Blk w g 170 (hc s.bs s.a s.o) := hg
  have hlg := hg.lt
  have a0 := ok.a0
  have o0 := ok.over
  have few := ok.few
  obtain ⟨a, ha⟩ : ∃ a, a = s.a := ⟨_, rfl⟩
  obtain ⟨o, ho⟩ : ∃ a, a = s.o := ⟨_, rfl⟩
  have CI : ∀ W : World, Below w.heap.size w W → ∀ n, Calls Tryz.prog 131 #[.pointer (some ⟨g, 0, none⟩)] (W.drewN n) (RetI a (W.drewN n)) := fun W hb n => by rw [ha]; exact in_any g s.bs s.a s.o _ ((hcell.below hb hlg).drewN n) ok.len
  have CO : ∀ W : World, Below w.heap.size w W → ∀ n, Calls Tryz.prog 132 #[.pointer (some ⟨g, 0, none⟩)] (W.drewN n) (RetI o (W.drewN n)) := fun W hb n => by rw [ho]; exact over_any g s.bs s.a s.o _ ((hcell.below hb hlg).drewN n) ok.len
  rw [← ha, ← ho] at few
  rw [← ha] at a0
  rw [← ho] at o0
  have HA := Lib.hid ha
  have HO := Lib.hid ho
  have HCI := Lib.hid CI
  have HCO := Lib.hid CO
  have HOK := Lib.hid ok
  have HG := Lib.hid hg
  have HLG := Lib.hid hlg
  clear ha ho CI CO ok hcell hg hlg
  rw [← HA.out, ← HO.out] at h h2
  have hn4 : ¬ a + o < 4 := by omega
  have CS : ∀ W : World, Below w.heap.size w W → ∀ n, Calls Tryz.prog 137 #[.pointer (some ⟨g, 0, none⟩)] (W.drewN n) (RetB s.spread (W.drewN n)) := fun W hb n => spread_any g s _ ((HG.out.below hb HLG.out).drewN n) HOK.out
  rw [h3] at CS
  have HCS := Lib.hid CS
  clear CS h3
  go_enter Tryz.func113, Tryz.ntmps113
  go_wp2_with fail
  generalize hW : w.alloc _ = W
  have hS : RS w w.heap.size W := by rw [← hW]; exact RS.start w
  obtain ⟨r, hr⟩ : ∃ r, r = w.heap.size := ⟨_, rfl⟩
  rw [← hr] at hS ⊢
  have HS := Lib.hid hS
  clear hW hr hS
  refine (HCI.out W HS.out.below 0).mono ?_
  rintro e w' ⟨rfl, n1, rfl⟩
  go_wp2_with fail
  refine (HCO.out W HS.out.below _).mono ?_
  rintro e w' ⟨rfl, n2, rfl⟩
  go_wp2_with fail
  refine (HCO.out W HS.out.below _).mono ?_
  rintro e w' ⟨rfl, n3, rfl⟩
  go_wp2_with fail
  refine (HCS.out W HS.out.below _).mono ?_
  rintro e w' ⟨rfl, n4, rfl⟩
  go_wp2_with fail
  generalize hg2 : W.drewN _ = W2
  have HS2 := Lib.hid (show RS w r W2 by rw [← hg2]; exact HS.out.drewN _)
  clear hg2
  refine (fixed_any _).mono ?_
  intro e w9 hx
  have HS9 := Lib.hid (HS2.out.next hx.2)
  obtain ⟨rfl, -⟩ := hx
  unfold Win.val wfix
  obtain ⟨c0, c1, c2, f0, f1, f2⟩ := HS9.out.facts
  go_wp2
  exact bodyPost_ret (v := .agg #[.int .i64 0, .int .i64 0, .int .i64 10]) (by simp [results, Tryz.results113, go_sem, c0, c1, c2]) rfl (RetW.mk rfl (HS9.out.three _ _ _))

theorem cut_lt (s : S) (p : Int) : s.cut p < 240 := by
  unfold S.cut
  split
  · next h => exact (Classical.choose_spec h).lt
  · omega
set_option maxHeartbeats 2000000 in
theorem of_hist (g k : Nat) (s : S) (ts : List Int) (w : World) (hg : Blk w g 170 s.cells) (ok : Ok s) (hr : Rg w k ts) (h : 4 ≤ s.a + s.o) (h2 : ¬ s.a + s.o < 2 * s.o) (h3 : s.spread = true) : Calls Tryz.prog 113 #[.pointer (some ⟨g, 0, none⟩), .pointer (some ⟨k, 0, none⟩)] w (RetW (whist (s.cut 5) (s.cut 99)) w) := by
  clear hr
  have hcell : Blk w g 170 (hc s.bs s.a s.o) := hg
  have hlg := hg.lt
  have a0 := ok.a0
  have o0 := ok.over
  have few := ok.few
  obtain ⟨a, ha⟩ : ∃ a, a = s.a := ⟨_, rfl⟩
  obtain ⟨o, ho⟩ : ∃ a, a = s.o := ⟨_, rfl⟩
  have CI : ∀ W : World, Below w.heap.size w W → ∀ n, Calls Tryz.prog 131 #[.pointer (some ⟨g, 0, none⟩)] (W.drewN n) (RetI a (W.drewN n)) := fun W hb n => by rw [ha]; exact in_any g s.bs s.a s.o _ ((hcell.below hb hlg).drewN n) ok.len
  have CO : ∀ W : World, Below w.heap.size w W → ∀ n, Calls Tryz.prog 132 #[.pointer (some ⟨g, 0, none⟩)] (W.drewN n) (RetI o (W.drewN n)) := fun W hb n => by rw [ho]; exact over_any g s.bs s.a s.o _ ((hcell.below hb hlg).drewN n) ok.len
  rw [← ha, ← ho] at few
  rw [← ha] at a0
  rw [← ho] at o0
  have HA := Lib.hid ha
  have HO := Lib.hid ho
  have HCI := Lib.hid CI
  have HCO := Lib.hid CO
  have HOK := Lib.hid ok
  have HG := Lib.hid hg
  have HLG := Lib.hid hlg
  clear ha ho CI CO ok hcell hg hlg
  rw [← HA.out, ← HO.out] at h h2
  have hn4 : ¬ a + o < 4 := by omega
  have CS : ∀ W : World, Below w.heap.size w W → ∀ n, Calls Tryz.prog 137 #[.pointer (some ⟨g, 0, none⟩)] (W.drewN n) (RetB s.spread (W.drewN n)) := fun W hb n => spread_any g s _ ((HG.out.below hb HLG.out).drewN n) HOK.out
  rw [h3] at CS
  have CC : ∀ W : World, Below w.heap.size w W → ∀ n p, Calls Tryz.prog 138 #[.pointer (some ⟨g, 0, none⟩), .int .i64 p] (W.drewN n) (RetC (s.cut p : Int) (decide (0 < s.a)) (W.drewN n)) := fun W hb n p => cut_any g s p _ ((HG.out.below hb HLG.out).drewN n) HOK.out
  have HCS := Lib.hid CS
  have HCC := Lib.hid CC
  have l1 := cut_lt s 5
  have l2 := cut_lt s 99
  obtain ⟨u, hu⟩ : ∃ u, u = s.cut 5 := ⟨_, rfl⟩
  obtain ⟨v, hv⟩ : ∃ u, u = s.cut 99 := ⟨_, rfl⟩
  rw [← hu] at l1
  rw [← hv] at l2
  have C5 : ∀ W : World, Below w.heap.size w W → ∀ n, Calls Tryz.prog 138 #[.pointer (some ⟨g, 0, none⟩), .int .i64 5] (W.drewN n) (RetC (u : Int) (decide (0 < s.a)) (W.drewN n)) := fun W hb n => by rw [hu]; exact CC W hb n 5
  have C99 : ∀ W : World, Below w.heap.size w W → ∀ n, Calls Tryz.prog 138 #[.pointer (some ⟨g, 0, none⟩), .int .i64 99] (W.drewN n) (RetC (v : Int) (decide (0 < s.a)) (W.drewN n)) := fun W hb n => by rw [hv]; exact CC W hb n 99
  have CF := fun w => Num.frac_any u 9 10 w ⟨by omega, by omega⟩ ⟨by omega, by omega⟩ ⟨by omega, by omega⟩
  have CG := fun w => Num.fracUp_any (v + 1) 11 10 w ⟨by omega, by omega⟩ ⟨by omega, by omega⟩ ⟨by omega, by omega⟩
  rw [frac_small (by omega) (by omega) (by omega) (by omega) (by omega)] at CF
  rw [fracUp_small (by omega) (by omega) (by omega) (by omega) (by omega)] at CG
  have HUV := Lib.hid (And.intro hu hv)
  have HC5 := Lib.hid C5
  have HC99 := Lib.hid C99
  have HCF := Lib.hid CF
  have HCG := Lib.hid CG
  obtain ⟨b, hb⟩ : ∃ b, b = decide (0 < s.a) := ⟨_, rfl⟩
  rw [← hb] at HC5 HC99
  clear CS CC h3 hu hv C5 C99 CF CG hb HCC
  go_enter Tryz.func113, Tryz.ntmps113
  go_wp2_with fail
  generalize hW : w.alloc _ = W
  have hS : RS w w.heap.size W := by rw [← hW]; exact RS.start w
  obtain ⟨r, hr⟩ : ∃ r, r = w.heap.size := ⟨_, rfl⟩
  rw [← hr] at hS ⊢
  have HS := Lib.hid hS
  clear hW hr hS
  refine (HCI.out W HS.out.below 0).mono ?_
  rintro e w' ⟨rfl, n1, rfl⟩
  go_wp2_with fail
  refine (HCO.out W HS.out.below _).mono ?_
  rintro e w' ⟨rfl, n2, rfl⟩
  go_wp2_with fail
  refine (HCO.out W HS.out.below _).mono ?_
  rintro e w' ⟨rfl, n3, rfl⟩
  go_wp2_with fail
  refine (HCS.out W HS.out.below _).mono ?_
  rintro e w' ⟨rfl, n4, rfl⟩
  go_wp2_with fail
  refine (HC5.out W HS.out.below _).mono ?_
  rintro e w' ⟨rfl, n5, rfl⟩
  go_wp2_with fail
  refine (HC99.out W HS.out.below _).mono ?_
  rintro e w' ⟨rfl, n6, rfl⟩
  go_wp2_with fail
  refine (HCF.out _).mono ?_
  rintro e w' ⟨rfl, n7, rfl⟩
  go_wp2_with fail
  refine (HCG.out _).mono ?_
  rintro e w' ⟨rfl, n8, rfl⟩
  generalize hg9 : (W.drewN _).drewN _ = W9
  have HS9 := Lib.hid (show RS w r W9 by rw [← hg9]; exact (HS.out.drewN _).drewN _)
  clear hg9
  generalize hp : (u : Int) * 9 / 10 = p
  generalize hq : ((v : Int) + 1) * 11 + 10 - 1 = q0
  generalize hq2 : q0 / 10 = q
  have HP := Lib.hid hp
  have HQ := Lib.hid hq
  have HQ2 := Lib.hid hq2
  clear hp hq hq2
  obtain ⟨c0, c1, c2, f0, f1, f2⟩ := HS9.out.facts
  go_wp2
  exact bodyPost_ret (v := .agg #[.int .i64 1, .int .i64 p, .int .i64 q]) (by simp [results, Tryz.results113, go_sem, c0, c1, c2]) rfl (RetW.mk (by unfold Win.val whist; rw [← HUV.out.1, ← HUV.out.2, ← HP.out, ← HQ2.out, ← HQ.out, show ((v : Int) + 1) * 11 + 10 - 1 = v * 11 + 20 by omega]) (HS9.out.three _ _ _))

theorem of_any (g k : Nat) (s : S) (ts : List Int) (w : World) (hg : Blk w g 170 s.cells) (ok : Ok s) (hr : Rg w k ts) : Calls Tryz.prog 113 #[.pointer (some ⟨g, 0, none⟩), .pointer (some ⟨k, 0, none⟩)] w (RetW (win s ts) w) := by
  unfold win
  by_cases h : s.a + s.o < 4
  · rw [if_pos h]; exact of_few g k s ts w hg ok hr h
  · rw [if_neg h]
    by_cases h2 : s.a + s.o < 2 * s.o
    · rw [if_pos h2]; exact of_far g k s ts w hg ok hr (by omega) h2
    · rw [if_neg h2]
      by_cases h3 : s.spread = false
      · rw [if_pos h3]; exact of_flat g k s ts w hg ok hr (by omega) h2 h3
      · rw [if_neg h3]; exact of_hist g k s ts w hg ok hr (by omega) h2 (by simpa using h3)
end Go.Proofs.YtjmdgicdpggljaaGreat.Policy

/- Proved: what event.Event.Right answers: whether an event can be written. -/
namespace Go.Proofs.YtjmdgicdpggljaaGreat.Event
open Go.RowKit Go.Proofs.YtjmdgicdpggljaaGreat.Histo
set_option linter.unusedVariables false

/-- Which numbers an event of a kind has. -/
def offs (k : Int) : Option (List Nat) :=
  if k = 0 then some [] else if k = 1 then some [1, 2, 3, 4] else if k = 2 then some [1, 5, 6, 7, 8, 9] else if k = 3 then some [1, 3] else if 4 ≤ k ∧ k ≤ 9 then some [1] else none
def ptrs (g : Nat) (L : List Nat) : Array Value := (L.map fun o => Value.pointer (some ⟨g, o, none⟩)).toArray
def Parts (g : Nat) (k : Int) (w : World) (e : Ending) (w' : World) : Prop :=
  (offs k = none ∧ e = .returned (.slice none 0 0) ∧ Below w.heap.size w w') ∨
  ∃ L b, offs k = some L ∧ e = .returned (.slice (some ⟨b, 0, none⟩) L.length L.length) ∧ Blk w' b 98 (ptrs g L) ∧ w.heap.size ≤ b ∧ Below w.heap.size w w'
theorem parts_any (g : Nat) (k : Int) (w : World) (hk : w.cell? ⟨g, 0, none⟩ = some (.int .i64 k)) : Calls Tryz.prog 20 #[.pointer (some ⟨g, 0, none⟩)] w (Parts g k w) := by
  by_cases h0 : k = 0
  · subst h0
    go_enter Tryz.func20, Tryz.ntmps20
    go_wp2
    go_ret
    exact .inr ⟨_, _, rfl, rfl, Blk.new _ _ _, Nat.le_refl _, (Below.refl _ _).alloc (Nat.le_refl _) _⟩
  by_cases h1 : k = 1
  · subst h1
    go_enter Tryz.func20, Tryz.ntmps20
    go_wp2
    go_region
    go_wp2
    go_ret
    exact .inr ⟨_, _, rfl, rfl, (Blk.new _ _ _).drew, Nat.le_refl _, ((Below.refl _ _).alloc (Nat.le_refl _) _).drew⟩
  by_cases h2 : k = 2
  · subst h2
    go_enter Tryz.func20, Tryz.ntmps20
    go_wp2
    go_region
    go_wp2
    go_ret
    exact .inr ⟨_, _, rfl, rfl, (Blk.new _ _ _).drew, Nat.le_refl _, ((Below.refl _ _).alloc (Nat.le_refl _) _).drew⟩
  by_cases h3 : k = 3
  · subst h3
    go_enter Tryz.func20, Tryz.ntmps20
    go_wp2
    go_region
    go_wp2
    go_ret
    exact .inr ⟨_, _, rfl, rfl, (Blk.new _ _ _).drew, Nat.le_refl _, ((Below.refl _ _).alloc (Nat.le_refl _) _).drew⟩
  by_cases h4 : k = 4
  · subst h4
    go_enter Tryz.func20, Tryz.ntmps20
    go_wp2
    go_ret
    exact .inr ⟨_, _, rfl, rfl, Blk.new _ _ _, Nat.le_refl _, (Below.refl _ _).alloc (Nat.le_refl _) _⟩
  by_cases h5 : k = 5
  · subst h5
    go_enter Tryz.func20, Tryz.ntmps20
    go_wp2
    go_ret
    exact .inr ⟨_, _, rfl, rfl, Blk.new _ _ _, Nat.le_refl _, (Below.refl _ _).alloc (Nat.le_refl _) _⟩
  by_cases h6 : k = 6
  · subst h6
    go_enter Tryz.func20, Tryz.ntmps20
    go_wp2
    go_ret
    exact .inr ⟨_, _, rfl, rfl, Blk.new _ _ _, Nat.le_refl _, (Below.refl _ _).alloc (Nat.le_refl _) _⟩
  by_cases h7 : k = 7
  · subst h7
    go_enter Tryz.func20, Tryz.ntmps20
    go_wp2
    go_ret
    exact .inr ⟨_, _, rfl, rfl, Blk.new _ _ _, Nat.le_refl _, (Below.refl _ _).alloc (Nat.le_refl _) _⟩
  by_cases h8 : k = 8
  · subst h8
    go_enter Tryz.func20, Tryz.ntmps20
    go_wp2
    go_ret
    exact .inr ⟨_, _, rfl, rfl, Blk.new _ _ _, Nat.le_refl _, (Below.refl _ _).alloc (Nat.le_refl _) _⟩
  by_cases h9 : k = 9
  · subst h9
    go_enter Tryz.func20, Tryz.ntmps20
    go_wp2
    go_ret
    exact .inr ⟨_, _, rfl, rfl, Blk.new _ _ _, Nat.le_refl _, (Below.refl _ _).alloc (Nat.le_refl _) _⟩
  have ho : offs k = none := by unfold offs; rw [if_neg h0, if_neg h1, if_neg h2, if_neg h3, if_neg (by omega)]
  have e0 : (k == 0) = false := beq_eq_false_iff_ne.2 h0
  have e1 : (k == 1) = false := beq_eq_false_iff_ne.2 h1
  have e2 : (k == 2) = false := beq_eq_false_iff_ne.2 h2
  have e3 : (k == 3) = false := beq_eq_false_iff_ne.2 h3
  have e4 : (k == 4) = false := beq_eq_false_iff_ne.2 h4
  have e5 : (k == 5) = false := beq_eq_false_iff_ne.2 h5
  have e6 : (k == 6) = false := beq_eq_false_iff_ne.2 h6
  have e7 : (k == 7) = false := beq_eq_false_iff_ne.2 h7
  have e8 : (k == 8) = false := beq_eq_false_iff_ne.2 h8
  have e9 : (k == 9) = false := beq_eq_false_iff_ne.2 h9
  have HO := Lib.hid ho
  clear ho
  go_enter Tryz.func20, Tryz.ntmps20
  go_wp2
  go_ret
  exact .inl ⟨HO.out, rfl, Below.refl _ _⟩

/-- An event's ten numbers. -/
structure Ev where
  k : Int
  n : Int
  limit : Int
  size : Int
  refill : Int
  acct : Int
  mem : Int
  cost : Int
  res : Int
  keep : Int
def Ev.val (e : Ev) : Value := .agg #[.int .i64 e.k, .int .i64 e.n, .int .i64 e.limit, .int .i64 e.size, .int .i64 e.refill, .int .i64 e.acct, .int .i64 e.mem, .int .i64 e.cost, .int .i64 e.res, .int .i64 e.keep]
def Ev.list (e : Ev) : List Int := [e.k, e.n, e.limit, e.size, e.refill, e.acct, e.mem, e.cost, e.res, e.keep]
def inR (x : Int) : Bool := decide (0 ≤ x) && decide (x ≤ 2147483647)
def Ev.at (e : Ev) (o : Nat) : Int := e.list.getD o 0
/-- Can an event be written? -/
def Ev.right (e : Ev) : Bool := match offs e.k with
  | none => false
  | some L => (L.all fun o => inR (e.at o)) && ((List.range 10).all fun o => o == 0 || L.contains o || e.at o == 0)
/-- The numbers of an event that its kind has, as far as these. -/
def bare (e : Ev) (L : List Nat) (i : Nat) (o : Nat) : Int := if o = 0 ∨ o ∈ L.take i then e.at o else 0

def RetB1 (b : Bool) (w : World) (e : Ending) (w' : World) : Prop := e = .returned (.bool b) ∧ Below w.heap.size w w'
theorem RetB1.mk {b b' : Bool} {w w' : World} (h : b' = b) (hw : Below w.heap.size w w') : RetB1 b w (.returned (.bool b')) w' := by subst h; exact ⟨rfl, hw⟩
def bcells (e : Ev) (L : List Nat) (i : Nat) : Array Value := ((List.range 10).map fun o => Value.int .i64 (bare e L i o)).toArray

theorem offs_ok {k : Int} {L : List Nat} (h : offs k = some L) : L.Nodup ∧ ∀ o ∈ L, 0 < o ∧ o < 10 := by
  unfold offs at h
  repeat' split at h
  all_goals first | (injection h with h; subst h; exact ⟨by decide, by decide⟩) | cases h
theorem ptrs_get {g : Nat} {L : List Nat} {i : Nat} (h : i < L.length) : (ptrs g L)[i]? = some (.pointer (some ⟨g, L[i], none⟩)) := by
  unfold ptrs
  rw [List.getElem?_toArray, List.getElem?_map, List.getElem?_eq_getElem h]; rfl
theorem bcells_get {e : Ev} {L : List Nat} {i o : Nat} (h : o < 10) : (bcells e L i)[o]? = some (.int .i64 (bare e L i o)) := by
  unfold bcells
  rw [List.getElem?_toArray, List.getElem?_map, List.getElem?_range h]; rfl
theorem bcells_set {e : Ev} {L : List Nat} {i : Nat} (h : i < L.length) (hl : L[i] < 10) : (bcells e L i).setIfInBounds L[i] (.int .i64 (e.at L[i])) = bcells e L (i + 1) := by
  unfold bcells
  rw [List.setIfInBounds_toArray]
  congr 1
  apply List.ext_getElem?
  intro j
  rw [List.getElem?_set, List.getElem?_map, List.getElem?_map]
  by_cases hj : j < 10
  · rw [List.getElem?_range hj]
    simp only [Option.map_some, List.length_map, List.length_range]
    by_cases he : L[i] = j
    · rw [if_pos he, if_pos (by omega)]
      unfold bare
      rw [if_pos (.inr (by rw [List.take_succ_eq_append_getElem h, he]; simp)), he]
    · rw [if_neg he]
      unfold bare
      rw [List.take_succ_eq_append_getElem h]
      have : (j = 0 ∨ j ∈ L.take i) ↔ (j = 0 ∨ j ∈ L.take i ++ [L[i]]) := by
        rw [List.mem_append, List.mem_singleton]
        constructor
        · rintro (h | h)
          · exact .inl h
          · exact .inr (.inl h)
        · rintro (h | h | h)
          · exact .inl h
          · exact .inr h
          · exact absurd h.symm he
      by_cases hp : j = 0 ∨ j ∈ L.take i
      · rw [if_pos hp, if_pos (this.1 hp)]
      · rw [if_neg hp, if_neg (fun q => hp (this.2 q))]
  · rw [List.getElem?_eq_none (by simp; omega)]
    simp; omega
theorem blk_neq {w : World} {g k : Nat} {t t' : TypeId} {cs cs' : Array Value} (h : Blk w g t cs) (h' : Blk w k t' cs') (hn : t ≠ t') : g ≠ k := by
  intro e
  subst e
  unfold Blk at h h'
  rw [h] at h'
  injection h' with h'
  injection h' with _ h2 _
  exact hn h2
/-- The loop of Right. -/
structure EvL (w : World) (e : Ev) (L : List Nat) (g b g2 b2 i : Nat) (wr : World) : Prop where
  ha : Blk wr g 28 (e.list.map (Value.int .i64)).toArray
  hb : Blk wr b 98 (ptrs g L)
  hc : Blk wr g2 28 (bcells e L i)
  hd : Blk wr b2 98 (ptrs g2 L)
  rng : ∀ o ∈ L.take i, inR (e.at o) = true
  below : Below w.heap.size w wr
  ng : w.heap.size ≤ g2
  ne : g ≠ g2
theorem EvL.drew {w : World} {e : Ev} {L : List Nat} {g b g2 b2 i : Nat} {wr : World} (h : EvL w e L g b g2 b2 i wr) : EvL w e L g b g2 b2 i wr.drew := ⟨h.ha, h.hb, h.hc, h.hd, h.rng, h.below.drew, h.ng, h.ne⟩ /- 28 -/
theorem ecell {w : World} {g : Nat} {e : Ev} (h : Blk w g 28 (e.list.map (Value.int .i64)).toArray) {o : Nat} (ho : o < 10) : w.cell? ⟨g, o, none⟩ = some (.int .i64 (e.at o)) := by
  rw [h.cell, List.getElem?_toArray, List.getElem?_map]
  have hl : e.list.length = 10 := rfl
  unfold Ev.at
  rw [List.getD_eq_getElem?_getD, List.getElem?_eq_getElem (by omega)]; rfl
theorem right_no {e : Ev} {L : List Nat} (h : offs e.k = some L) {o : Nat} (ho : o ∈ L) (hn : inR (e.at o) = false) : e.right = false := by
  unfold Ev.right
  rw [h]
  simp only [Bool.and_eq_false_iff]
  left
  rw [List.all_eq_false]
  exact ⟨o, ho, by rw [hn]; decide⟩
theorem right_none {e : Ev} (h : offs e.k = none) : e.right = false := by unfold Ev.right; rw [h]
theorem inR_no {x : Int} (h : x < 0 ∨ 2147483647 < x) : inR x = false := by
  unfold inR
  rcases h with h | h
  · rw [decide_eq_false (by omega)]; rfl
  · rw [decide_eq_false (show ¬ x ≤ 2147483647 by omega), Bool.and_false]
theorem inR_yes {x : Int} (h0 : 0 ≤ x) (h1 : x ≤ 2147483647) : inR x = true := by unfold inR; rw [decide_eq_true h0, decide_eq_true h1]; rfl
/-- At the end it is told by the ten numbers. -/
theorem right_end {e : Ev} {L : List Nat} (h : offs e.k = some L) (hr : ∀ o ∈ L, inR (e.at o) = true) : e.right = (List.range 10).all fun o => bare e L L.length o == e.at o := by
  unfold Ev.right
  rw [h]
  simp only
  rw [List.all_eq_true.2 hr, Bool.true_and]
  refine List.all_congr rfl fun o => ?_ 
  unfold bare
  rw [List.take_of_length_le (Nat.le_refl _)]
  rw [Bool.eq_iff_iff]
  by_cases h1 : o = 0 ∨ o ∈ L
  · rw [if_pos h1]
    simp only [BEq.rfl, iff_true, Bool.or_eq_true, beq_iff_eq, List.contains_iff_mem]
    exact .inl h1
  · rw [if_neg h1]
    simp only [Bool.or_eq_true, beq_iff_eq, List.contains_iff_mem]
    constructor
    · rintro (h2 | h2)
      · exact absurd h2 h1
      · exact h2.symm
    · exact fun h2 => .inr h2.symm
abbrev ecells (k a1 a2 a3 a4 a5 a6 a7 a8 a9 : Int) : Array Value := #[.int .i64 k, .int .i64 a1, .int .i64 a2, .int .i64 a3, .int .i64 a4, .int .i64 a5, .int .i64 a6, .int .i64 a7, .int .i64 a8, .int .i64 a9]

set_option maxHeartbeats 4000000 in
set_option maxRecDepth 100000 in
theorem right_any (e : Ev) (w : World) : Calls Tryz.prog 14 #[e.val] w (RetB1 e.right w) := by
  obtain ⟨k, a1, a2, a3, a4, a5, a6, a7, a8, a9⟩ := e
  unfold Ev.val
  simp only
  have RN := Lib.hid (fun (L : List Nat) => @right_no ⟨k, a1, a2, a3, a4, a5, a6, a7, a8, a9⟩ L)
  have RE := Lib.hid (fun (L : List Nat) => @right_end ⟨k, a1, a2, a3, a4, a5, a6, a7, a8, a9⟩ L)
  have R0 := Lib.hid (@right_none ⟨k, a1, a2, a3, a4, a5, a6, a7, a8, a9⟩)
  obtain ⟨E, hE⟩ : ∃ E : Ev, E = ⟨k, a1, a2, a3, a4, a5, a6, a7, a8, a9⟩ := ⟨_, rfl⟩
  rw [← hE] at RN RE R0 ⊢
  have HE := Lib.hid hE
  clear hE
  go_enter Tryz.func14, Tryz.ntmps14
  go_wp2_with fail
  generalize hW : w.alloc _ = W
  have bW : Below w.heap.size w W := by rw [← hW]; exact (Below.refl _ _).alloc (Nat.le_refl _) _
  have hB : Blk W w.heap.size 28 (ecells k a1 a2 a3 a4 a5 a6 a7 a8 a9) := by rw [← hW]; exact Blk.new _ _ _
  obtain ⟨g, hg⟩ : ∃ g, g = w.heap.size := ⟨_, rfl⟩
  rw [← hg] at hB bW ⊢
  have ck := hB.cell 0
  have P1 := Lib.hid (parts_any g k W ck)
  have HB := Lib.hid hB
  have HBW := Lib.hid bW
  have HGW := Lib.hid hg
  clear hW hB bW hg ck
  refine (P1.out).mono ?_
  intro e1 w1 h1
  have P2 := fun (w2 : World) (h : Below g W w2) => (HB.out).lt
  rcases h1 with ⟨ho, rfl, hb1⟩ | ⟨L, b, ho, rfl, hL, hb, hb1⟩
  · have hB1 := HB.out.below hb1 HB.out.lt
    have ck : w1.cell? ⟨g, 0, none⟩ = some (.int .i64 k) := hB1.cell 0
    have HO := Lib.hid ho
    have HB1 := Lib.hid hb1
    clear ho hb1 hB1 P2
    go_wp2_with fail
    generalize hW1 : w1.alloc _ = W1
    have bW1 : Below w1.heap.size w1 W1 := by rw [← hW1]; exact (Below.refl _ _).alloc (Nat.le_refl _) _
    have cW1 : W1.cell? ⟨w1.heap.size, 0, none⟩ = some (.int .i64 k) := by rw [← hW1]; exact (Blk.new _ _ _).cell 0
    obtain ⟨g2, hg2⟩ : ∃ g, g = w1.heap.size := ⟨_, rfl⟩
    rw [← hg2] at cW1 ⊢
    have Q := Lib.hid (parts_any g2 k W1 cW1)
    have HBW1 := Lib.hid bW1
    clear hW1 bW1 cW1 hg2 ck
    refine (Q.out).mono ?_
    intro e2 w2 h2
    rcases h2 with ⟨ho2, rfl, hb2⟩ | ⟨L, b, ho2, rfl, hL, hb, hb2⟩
    · have HB2 := Lib.hid hb2
      clear hb2 ho2
      go_wp2
      go_loop [15] (fun iv => iv = .int .i64 0) (fun _ => 0)
      case atStart => rfl
      case round =>
      obtain rfl := hrel
      go_wp2
      have hbl : Below w.heap.size w w2 := by
        have h1 := HBW.out.trans (HB1.out.mono (by have := HBW.out.size; have := HGW.out; omega))
        have h2 := h1.trans (HBW1.out.mono (by have := h1.size; have := HGW.out; omega))
        exact h2.trans (HB2.out.mono (by have := h2.size; have := HGW.out; omega)) |>.mono (by have := HGW.out; omega)
      go_ret
      exact RetB1.mk (R0.out (by rw [HE.out]; exact HO.out)).symm hbl
    · exfalso; rw [HO.out] at ho2; cases ho2
  · have hB1 := HB.out.below hb1 HB.out.lt
    have ck : w1.cell? ⟨g, 0, none⟩ = some (.int .i64 k) := hB1.cell 0
    have HO := Lib.hid ho
    have HB1 := Lib.hid hb1
    have HBB1 := Lib.hid hB1
    have HL := Lib.hid hL
    have HNB := Lib.hid hb
    clear ho hb1 hB1 hL hb P2
    go_wp2_with fail
    generalize hW1 : w1.alloc _ = W1
    have bW1 : Below w1.heap.size w1 W1 := by rw [← hW1]; exact (Below.refl _ _).alloc (Nat.le_refl _) _
    have cW1 : Blk W1 w1.heap.size 28 (ecells k 0 0 0 0 0 0 0 0 0) := by rw [← hW1]; exact Blk.new _ _ _
    obtain ⟨g2, hg2⟩ : ∃ g, g = w1.heap.size := ⟨_, rfl⟩
    rw [← hg2] at cW1 ⊢
    have Q := Lib.hid (parts_any g2 k W1 (cW1.cell 0))
    have HBW1 := Lib.hid bW1
    have HC1 := Lib.hid cW1
    have HG2 := Lib.hid hg2
    clear hW1 bW1 cW1 hg2 ck
    refine (Q.out).mono ?_
    intro e2 w2 h2
    rcases h2 with ⟨ho2, rfl, hb2⟩ | ⟨L2, b2, ho2, rfl, hL2, hnb2, hb2⟩
    · exfalso; rw [HO.out] at ho2; cases ho2
    rw [HO.out] at ho2
    injection ho2 with ho2
    subst ho2
    have st : EvL w E L g b g2 b2 0 w2 := by
      have x1 := HBW.out
      have x2 := HB1.out
      have x3 := HBW1.out
      have s1 := x1.size
      have s2 := x2.size
      have s3 := x3.size
      have hg := HGW.out
      have hg2 := HG2.out
      have lg := HB.out.lt
      have lb := HL.out.lt
      have y1 := x1.trans (x2.mono (by omega))
      have y2 := y1.trans (x3.mono (by omega))
      have y3 := y2.trans (hb2.mono (by omega))
      refine ⟨?_, ?_, ?_, hL2, fun o ho => by simp at ho, y3.mono (by omega), by omega, by omega⟩
      · rw [HE.out]; exact ((HBB1.out.below x3 (by omega)).below hb2 (by omega))
      · exact (HL.out.below x3 lb).below hb2 (by omega)
      · have := HC1.out.below hb2 HC1.out.lt
        have e0 : bcells E L 0 = ecells k 0 0 0 0 0 0 0 0 0 := by rw [HE.out]; rfl
        rw [e0]; exact this
    have ST := Lib.hid st
    have OK := Lib.hid (offs_ok HO.out)
    have HOE := Lib.hid (show offs E.k = some L by rw [HE.out]; exact HO.out)
    obtain ⟨n, hn⟩ : ∃ n, n = L.length := ⟨_, rfl⟩
    have hn10 : n ≤ 10 := by
      have : ∀ k L, offs k = some L → L.length ≤ 10 := fun k L h => by
        unfold offs at h
        repeat' split at h
        all_goals first | (injection h with h; subst h; decide) | cases h
      rw [hn]; exact this _ _ HO.out
    rw [← hn]
    have HN := Lib.hid hn
    clear st hL2 hnb2 hb2 hn
    go_wp2_with fail
    go_loopw [15] (fun iv wr => ∃ i : Nat, i ≤ n ∧ iv = .int .i64 i ∧ EvL w E L g b g2 b2 i wr) (fun iv _ => n - (intOf iv).toNat)
    case atStart => exact ⟨0, by omega, rfl, ST.out⟩
    case round =>
      obtain ⟨i, hi, rfl, hM⟩ := hrel
      by_cases hlt : i < n
      · have hil : i < L.length := by rw [← HN.out]; exact hlt
        obtain ⟨o, ho⟩ : ∃ o, o = L[i] := ⟨_, rfl⟩
        have hom : o ∈ L := by rw [ho]; exact List.getElem_mem hil
        have ho10 := (OK.out.2 o hom)
        have cb := hM.hb.cell i
        rw [ptrs_get hil, ← ho] at cb
        have ce := ecell hM.ha ho10.2
        have cb2 := hM.hd.cell i
        rw [ptrs_get hil, ← ho] at cb2
        have cg2 : wr.cell? ⟨g2, o, none⟩ = some (.int .i64 (bare E L i o)) := by rw [hM.hc.cell, bcells_get ho10.2]
        have fg2 := hM.hc.frozen o
        have hne := hM.ne
        have HOM := Lib.hid hom
        have HAT : ∃ v, v = E.at o := ⟨_, rfl⟩
        obtain ⟨v, hv⟩ := HAT
        rw [← hv] at ce
        by_cases t1 : v < 0
        · have d1 : decide (v < 0) = true := decide_eq_true t1
          have HR := Lib.hid (RN.out L HOE.out hom (by rw [← hv]; exact inR_no (.inl t1)))
          have HM := Lib.hid hM
          clear hM hv ho hom ho10
          go_wp2
          go_ret
          exact RetB1.mk HR.out.symm HM.out.below
        · have d1 : decide (v < 0) = false := decide_eq_false t1
          by_cases t2 : 2147483647 < v
          · have d2 : decide (2147483647 < v) = true := decide_eq_true t2
            have HR := Lib.hid (RN.out L HOE.out hom (by rw [← hv]; exact inR_no (.inr t2)))
            have HM := Lib.hid hM
            clear hM hv ho hom ho10
            go_wp2
            go_ret
            exact RetB1.mk HR.out.symm HM.out.below
          · have d2 : decide (2147483647 < v) = false := decide_eq_false t2
            have hnext : EvL w E L g b g2 b2 (i + 1) (wr.setCell ⟨g2, o, none⟩ (.int .i64 v)) := by
              have b1 := hM.hc.set_ o (.int .i64 v)
              rw [hv, ho, bcells_set hil (by rw [← ho]; exact ho10.2)] at b1
              refine ⟨hM.ha.far hM.ne _, hM.hb.far (blk_neq hM.hb hM.hc (by decide)) _, ?_, hM.hd.far (blk_neq hM.hd hM.hc (by decide)) _, ?_, hM.below.setCell hM.ng _, hM.ng, hM.ne⟩
              · rw [hv, ho]; exact b1
              · intro o' ho'
                rw [List.take_succ_eq_append_getElem hil, List.mem_append, List.mem_singleton] at ho'
                rcases ho' with ho' | ho'
                · exact hM.rng o' ho'
                · rw [ho', ← ho, ← hv]; exact inR_yes (by omega) (by omega)
            have HX := Lib.hid hnext
            clear hM hv ho hom hnext ho10 hil
            go_wp2
            go_region
            go_wp2
            go_roundw
            case rel => exact ⟨i + 1, by omega, by go_num, HX.out.drew⟩
            case measure => simp [intOf]; omega
      · obtain rfl : n = i := by omega
        have hr : ∀ o ∈ L, inR (E.at o) = true := fun o ho => hM.rng o (by rw [List.take_of_length_le (by rw [HN.out]; exact Nat.le_refl _)]; exact ho)
        have hend := RE.out L HOE.out hr
        rw [← HN.out] at hend
        have hend2 : E.right = (bare E L n 0 == E.at 0 && (bare E L n 1 == E.at 1 && (bare E L n 2 == E.at 2 && (bare E L n 3 == E.at 3 && (bare E L n 4 == E.at 4 && (bare E L n 5 == E.at 5 && (bare E L n 6 == E.at 6 && (bare E L n 7 == E.at 7 && (bare E L n 8 == E.at 8 && (bare E L n 9 == E.at 9 && true)))))))))) := hend
        clear hend
        have C : ∀ o, o < 10 → wr.cell? ⟨g2, o, none⟩ = some (.int .i64 (bare E L n o)) := fun o ho => by rw [hM.hc.cell]; exact bcells_get ho
        have D : ∀ o, o < 10 → wr.cell? ⟨g, o, none⟩ = some (.int .i64 (E.at o)) := fun o ho => ecell hM.ha ho
        have cb0 := C 0 (by omega)
        have ce0 := D 0 (by omega)
        have cb1 := C 1 (by omega)
        have ce1 := D 1 (by omega)
        have cb2 := C 2 (by omega)
        have ce2 := D 2 (by omega)
        have cb3 := C 3 (by omega)
        have ce3 := D 3 (by omega)
        have cb4 := C 4 (by omega)
        have ce4 := D 4 (by omega)
        have cb5 := C 5 (by omega)
        have ce5 := D 5 (by omega)
        have cb6 := C 6 (by omega)
        have ce6 := D 6 (by omega)
        have cb7 := C 7 (by omega)
        have ce7 := D 7 (by omega)
        have cb8 := C 8 (by omega)
        have ce8 := D 8 (by omega)
        have cb9 := C 9 (by omega)
        have ce9 := D 9 (by omega)
        generalize hx0 : bare E L n 0 = x0 at *
        generalize hy0 : E.at 0 = y0 at *
        generalize hx1 : bare E L n 1 = x1 at *
        generalize hy1 : E.at 1 = y1 at *
        generalize hx2 : bare E L n 2 = x2 at *
        generalize hy2 : E.at 2 = y2 at *
        generalize hx3 : bare E L n 3 = x3 at *
        generalize hy3 : E.at 3 = y3 at *
        generalize hx4 : bare E L n 4 = x4 at *
        generalize hy4 : E.at 4 = y4 at *
        generalize hx5 : bare E L n 5 = x5 at *
        generalize hy5 : E.at 5 = y5 at *
        generalize hx6 : bare E L n 6 = x6 at *
        generalize hy6 : E.at 6 = y6 at *
        generalize hx7 : bare E L n 7 = x7 at *
        generalize hy7 : E.at 7 = y7 at *
        generalize hx8 : bare E L n 8 = x8 at *
        generalize hy8 : E.at 8 = y8 at *
        generalize hx9 : bare E L n 9 = x9 at *
        generalize hy9 : E.at 9 = y9 at *
        have HEND := Lib.hid hend2
        have HM := Lib.hid hM
        clear hM hr hend2 C D hx0 hy0 hx1 hy1 hx2 hy2 hx3 hy3 hx4 hy4 hx5 hy5 hx6 hy6 hx7 hy7 hx8 hy8 hx9 hy9
        go_wp2
        all_goals
          go_ret
          exact RetB1.mk (by rw [HEND.out]; simp [*]) HM.out.below
end Go.Proofs.YtjmdgicdpggljaaGreat.Event

/- Proved: what reply.Answer.Right answers: whether an answer is one. -/
namespace Go.Proofs.YtjmdgicdpggljaaGreat.Event
open Go.RowKit Go.Proofs.YtjmdgicdpggljaaGreat.Histo
set_option linter.unusedVariables false

/-- An answer's four numbers. -/
structure Ans where
  kind : Int
  box : Int
  why : Int
  err : Int
def Ans.val (a : Ans) : Value := .agg #[.int .i64 a.kind, .int .i64 a.box, .int .i64 a.why, .int .i64 a.err]
/-- Is it an answer? -/
def Ans.right (a : Ans) : Bool :=
  (a.kind == 0 && a.box == 0 && a.why == 0 && a.err == 0) ||
  (a.kind == 1 && a.box == 0 && a.why == 0 && (decide (0 < a.err) && decide (a.err ≤ 6))) ||
  ((a.kind == 2 || a.kind == 3) && (decide (1 ≤ a.box) && decide (a.box ≤ 2147483647)) && a.why == 0 && a.err == 0) ||
  (a.kind == 4 && a.box == 0 && (decide (0 < a.why) && decide (a.why ≤ 4)) && a.err == 0)

theorem two_below {w : World} {a b : Obj} : Below w.heap.size w ((w.alloc a).alloc b) := ((Below.refl _ _).alloc (Nat.le_refl _) _).alloc (by simp) _

end Go.Proofs.YtjmdgicdpggljaaGreat.Event
