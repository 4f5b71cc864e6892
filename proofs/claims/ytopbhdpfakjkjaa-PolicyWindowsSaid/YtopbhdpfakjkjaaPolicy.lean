/- Proved: what policy.Of, and the law's own Of, answer of a histogram, and of the numbers that came last. -/
import Derived.Test.YtopbhdpfakjkjaaCast
import Derived.Test.YtopbhdpfakjkjaaNumFrac
import Derived.Test.YtopbhdpfakjkjaaHistoModelAdd
import Derived.Test.YtopbhdpfakjkjaaHistoModelCut
namespace Go.Proofs.Ytopbhdpfakjkjaa.Policy
open Go.RowKit Go.Proofs.Ytopbhdpfakjkjaa.Histo Go.Proofs.Ytopbhdpfakjkjaa.Ring Go.Proofs.Ytopbhdpfakjkjaa.Cast

/-- A window. -/
structure Win where
  how : Int
  pre : Int
  fin : Int
def Win.val (x : Win) : Value := .agg #[.int .i64 x.how, .int .i64 x.pre, .int .i64 x.fin]
def wfix : Win := ⟨0, 0, 10⟩
def wcast (x : Int) : Win := ⟨2, x * 85 / 100, max ((x * 115 + 99) / 100) (x * 85 / 100 + 1)⟩
def whist (a b : Int) : Win := ⟨1, a * 9 / 10, (b * 11 + 20) / 10⟩
noncomputable def win (s : S) (ts : List Int) : Win :=
  if s.a + s.o < 4 then wfix else if s.a + s.o < 2 * s.o then wcast (nx (last8 ts)) else if s.spread = false then wfix else whist (s.cut 5) (s.cut 99)
def RetW (x : Win) (w : World) (e : Ending) (w' : World) : Prop := e = .returned x.val ∧ Below w.heap.size w w'
theorem RetW.mk {x : Win} {v : Value} {w w' : World} (h : v = x.val) (hw : Below w.heap.size w w') : RetW x w (.returned v) w' := by subst h; exact ⟨rfl, hw⟩

theorem fixed_any (w : World) : Calls Try.prog 27 #[] w (RetW wfix w) := by
  go_enter Try.func27, Try.ntmps27
  go_wp2
  exact bodyPost_ret (v := wfix.val) (by simp [results, Try.results27, go_sem, Win.val, wfix]) rfl ⟨rfl, (Below.refl _ _).alloc (Nat.le_refl _) _⟩

theorem frac_small {n up down : Int} (h0 : 0 ≤ n) (h1 : 0 ≤ up) (h2 : 0 < down) (h3 : n * up ≤ 4611686018427387904) (h4 : 0 ≤ n * up) : Num.frac n up down = n * up / down := by
  unfold Num.frac
  rw [if_neg (by omega)]
  have a := Int.ediv_nonneg h4 (show 0 ≤ down by omega)
  have b : n * up / down ≤ n * up := Int.ediv_le_self _ h4
  exact Num.sat_id ⟨by omega, by omega⟩
theorem fracUp_small {n up down : Int} (h0 : 0 ≤ n) (h1 : 0 ≤ up) (h2 : 0 < down) (h3 : n * up + down - 1 ≤ 4611686018427387904) (h4 : 0 ≤ n * up) : Num.fracUp n up down = (n * up + down - 1) / down := by
  unfold Num.fracUp
  rw [if_neg (by omega)]
  have a := Int.ediv_nonneg (show 0 ≤ n * up + down - 1 by omega) (show 0 ≤ down by omega)
  have b : (n * up + down - 1) / down ≤ n * up + down - 1 := Int.ediv_le_self _ (by omega)
  exact Num.sat_id ⟨by omega, by omega⟩

theorem ahead_any (x : Int) (w : World) (h0 : 0 ≤ x) (h1 : x ≤ 1099511627776) : Calls Try.prog 28 #[.int .i64 x] w (RetW (wcast x) w) := by
  have C1 := fun w => Num.frac_any x 85 100 w ⟨by omega, by omega⟩ ⟨by omega, by omega⟩ ⟨by omega, by omega⟩
  have C2 := fun w => Num.fracUp_any x 115 100 w ⟨by omega, by omega⟩ ⟨by omega, by omega⟩ ⟨by omega, by omega⟩
  rw [frac_small h0 (by omega) (by omega) (by omega) (by omega)] at C1
  rw [fracUp_small h0 (by omega) (by omega) (by omega) (by omega)] at C2
  have hv : (wcast x).val = .agg #[.int .i64 2, .int .i64 (x * 85 / 100), .int .i64 (max ((x * 115 + 100 - 1) / 100) (x * 85 / 100 + 1))] := by
    unfold Win.val wcast
    rw [show x * 115 + 99 = x * 115 + 100 - 1 by omega]
  obtain ⟨p, hp⟩ : ∃ p, p = x * 85 / 100 := ⟨_, rfl⟩
  obtain ⟨q, hq⟩ : ∃ p, p = (x * 115 + 100 - 1) / 100 := ⟨_, rfl⟩
  rw [← hp] at C1 hv
  rw [← hq] at C2 hv
  have hp0 : 0 ≤ p := by omega
  have hp1 : p ≤ 1099511627776 := by omega
  have hq0 : 0 ≤ q := by omega
  have hq1 : q ≤ 10995116277760 := by omega
  have HC1 := Lib.hid C1
  have HC2 := Lib.hid C2
  have HV := Lib.hid hv
  clear C1 C2 hv hp hq
  go_enter Try.func28, Try.ntmps28
  go_wp2_with fail
  generalize hW : w.alloc _ = W
  have hb : Below w.heap.size w W := by rw [← hW]; exact (Below.refl _ _).alloc (Nat.le_refl _) _
  have hB : Blk W w.heap.size 35 #[.int .i64 0, .int .i64 0, .int .i64 0] := by rw [← hW]; exact Blk.new _ _ _
  obtain ⟨r, hr⟩ : ∃ r, r = w.heap.size := ⟨_, rfl⟩
  rw [← hr] at hB ⊢
  have HR := Lib.hid hr
  have HW_ := Lib.hid hb
  have HB := Lib.hid hB
  clear hW hr hb hB
  refine (HC1.out W).mono ?_
  rintro e w' ⟨rfl, n1, rfl⟩
  go_wp2_with fail
  refine (HC2.out _).mono ?_
  rintro e w' ⟨rfl, n2, rfl⟩
  have hB2 : Blk ((W.drewN n1).drewN n2) r 35 #[.int .i64 0, .int .i64 0, .int .i64 0] := HB.out
  have hb2 : Below w.heap.size w ((W.drewN n1).drewN n2) := below_drewN (below_drewN HW_.out _) _
  generalize (W.drewN n1).drewN n2 = W2 at hB2 hb2 ⊢
  have c0 : W2.cell? ⟨r, 0, none⟩ = some (.int .i64 0) := hB2.cell 0
  have c1 : W2.cell? ⟨r, 1, none⟩ = some (.int .i64 0) := hB2.cell 1
  have c2 : W2.cell? ⟨r, 2, none⟩ = some (.int .i64 0) := hB2.cell 2
  have f0 := hB2.frozen 0
  have f1 := hB2.frozen 1
  have f2 := hB2.frozen 2
  have HB2 := Lib.hid hb2
  clear hB2 hb2
  go_wp2
  exact bodyPost_ret (v := .agg #[.int .i64 2, .int .i64 p, .int .i64 (max q (p + 1))]) (by simp [results, Try.results28, go_sem, c0, c1, c2]) rfl (RetW.mk HV.out.symm (((HB2.out.setCell (by rw [HR.out]; exact Nat.le_refl _) _).setCell (by rw [HR.out]; exact Nat.le_refl _) _).setCell (by rw [HR.out]; exact Nat.le_refl _) _))

/-- The result's block, and all that was. -/
structure RS (w : World) (r : Nat) (W : World) : Prop where
  b : Blk W r 35 #[.int .i64 0, .int .i64 0, .int .i64 0]
  below : Below w.heap.size w W
  r : r = w.heap.size
theorem RS.start (w : World) : RS w w.heap.size (w.alloc (.cells #[.int .i64 0, .int .i64 0, .int .i64 0] 35)) := ⟨Blk.new _ _ _, (Below.refl _ _).alloc (Nat.le_refl _) _, rfl⟩
theorem RS.drewN {w W : World} {r : Nat} (h : RS w r W) (n : Nat) : RS w r (W.drewN n) := ⟨h.b.drewN n, below_drewN h.below n, h.r⟩
theorem RS.next {w W W' : World} {r : Nat} (h : RS w r W) (hb : Below W.heap.size W W') : RS w r W' := ⟨h.b.below hb h.b.lt, h.below.trans (hb.mono (by have := h.below.size; omega)), h.r⟩
theorem RS.three {w W : World} {r : Nat} (h : RS w r W) (a b c : Value) : Below w.heap.size w (((W.setCell ⟨r, 0, none⟩ a).setCell ⟨r, 1, none⟩ b).setCell ⟨r, 2, none⟩ c) :=
  ((h.below.setCell (by rw [h.r]; exact Nat.le_refl _) _).setCell (by rw [h.r]; exact Nat.le_refl _) _).setCell (by rw [h.r]; exact Nat.le_refl _) _
theorem RS.facts {w W : World} {r : Nat} (h : RS w r W) : W.cell? ⟨r, 0, none⟩ = some (.int .i64 0) ∧ W.cell? ⟨r, 1, none⟩ = some (.int .i64 0) ∧ W.cell? ⟨r, 2, none⟩ = some (.int .i64 0) ∧ W.frozen? ⟨r, 0, none⟩ = false ∧ W.frozen? ⟨r, 1, none⟩ = false ∧ W.frozen? ⟨r, 2, none⟩ = false :=
  ⟨h.b.cell 0, h.b.cell 1, h.b.cell 2, h.b.frozen 0, h.b.frozen 1, h.b.frozen 2⟩

set_option maxHeartbeats 2000000 in
theorem of_few (g k : Nat) (s : S) (ts : List Int) (w : World) (hg : Blk w g 62 s.cells) (ok : Ok s) (hr : Rg w k ts) (h : s.a + s.o < 4) : Calls Try.prog 16 #[.pointer (some ⟨g, 0, none⟩), .pointer (some ⟨k, 0, none⟩)] w (RetW wfix w) := by
  have hcell : Blk w g 62 (hc s.bs s.a s.o) := hg
  have hlg := hg.lt
  have a0 := ok.a0
  have o0 := ok.over
  have few := ok.few
  obtain ⟨a, ha⟩ : ∃ a, a = s.a := ⟨_, rfl⟩
  obtain ⟨o, ho⟩ : ∃ a, a = s.o := ⟨_, rfl⟩
  have CI : ∀ W : World, Below w.heap.size w W → ∀ n, Calls Try.prog 20 #[.pointer (some ⟨g, 0, none⟩)] (W.drewN n) (RetI a (W.drewN n)) := fun W hb n => by rw [ha]; exact in_any g s.bs s.a s.o _ ((hcell.below hb hlg).drewN n) ok.len
  have CO : ∀ W : World, Below w.heap.size w W → ∀ n, Calls Try.prog 19 #[.pointer (some ⟨g, 0, none⟩)] (W.drewN n) (RetI o (W.drewN n)) := fun W hb n => by rw [ho]; exact over_any g s.bs s.a s.o _ ((hcell.below hb hlg).drewN n) ok.len
  rw [← ha, ← ho] at few
  rw [← ha] at a0
  rw [← ho] at o0
  have HA := Lib.hid ha
  have HO := Lib.hid ho
  have HCI := Lib.hid CI
  have HCO := Lib.hid CO
  have HOK := Lib.hid ok
  have HG := Lib.hid hg
  have HLG := Lib.hid hlg
  clear ha ho CI CO ok hcell hg hlg
  rw [← HA.out, ← HO.out] at h
  clear few hr
  go_enter Try.func16, Try.ntmps16
  go_wp2_with fail
  generalize hW : w.alloc _ = W
  have hS : RS w w.heap.size W := by rw [← hW]; exact RS.start w
  obtain ⟨r, hr⟩ : ∃ r, r = w.heap.size := ⟨_, rfl⟩
  rw [← hr] at hS ⊢
  have HS := Lib.hid hS
  clear hW hr hS
  refine (HCI.out W HS.out.below 0).mono ?_
  rintro e w' ⟨rfl, n1, rfl⟩
  go_wp2_with fail
  refine (HCO.out W HS.out.below _).mono ?_
  rintro e w' ⟨rfl, n2, rfl⟩
  go_wp2_with fail
  generalize hg2 : W.drewN _ = W2
  have HS2 := Lib.hid (show RS w r W2 by rw [← hg2]; exact HS.out.drewN _)
  clear hg2
  refine (fixed_any _).mono ?_
  intro e w9 hx
  have HS9 := Lib.hid (HS2.out.next hx.2)
  obtain ⟨rfl, -⟩ := hx
  unfold Win.val wfix
  obtain ⟨c0, c1, c2, f0, f1, f2⟩ := HS9.out.facts
  go_wp2
  exact bodyPost_ret (v := .agg #[.int .i64 0, .int .i64 0, .int .i64 10]) (by simp [results, Try.results16, go_sem, c0, c1, c2]) rfl (RetW.mk rfl (HS9.out.three _ _ _))

set_option maxHeartbeats 2000000 in
theorem of_far (g k : Nat) (s : S) (ts : List Int) (w : World) (hg : Blk w g 62 s.cells) (ok : Ok s) (hr : Rg w k ts) (h : 4 ≤ s.a + s.o) (h2 : s.a + s.o < 2 * s.o) : Calls Try.prog 16 #[.pointer (some ⟨g, 0, none⟩), .pointer (some ⟨k, 0, none⟩)] w (RetW (wcast (nx (last8 ts))) w) := by
  have CL : ∀ W : World, Below w.heap.size w W → Calls Try.prog 30 #[.pointer (some ⟨k, 0, none⟩)] W (Made (· = last8 ts) W) := fun W hb => list_any k ts W (hr.below hb hr.lt)
  have HCL := Lib.hid CL
  clear CL hr
  have hcell : Blk w g 62 (hc s.bs s.a s.o) := hg
  have hlg := hg.lt
  have a0 := ok.a0
  have o0 := ok.over
  have few := ok.few
  obtain ⟨a, ha⟩ : ∃ a, a = s.a := ⟨_, rfl⟩
  obtain ⟨o, ho⟩ : ∃ a, a = s.o := ⟨_, rfl⟩
  have CI : ∀ W : World, Below w.heap.size w W → ∀ n, Calls Try.prog 20 #[.pointer (some ⟨g, 0, none⟩)] (W.drewN n) (RetI a (W.drewN n)) := fun W hb n => by rw [ha]; exact in_any g s.bs s.a s.o _ ((hcell.below hb hlg).drewN n) ok.len
  have CO : ∀ W : World, Below w.heap.size w W → ∀ n, Calls Try.prog 19 #[.pointer (some ⟨g, 0, none⟩)] (W.drewN n) (RetI o (W.drewN n)) := fun W hb n => by rw [ho]; exact over_any g s.bs s.a s.o _ ((hcell.below hb hlg).drewN n) ok.len
  rw [← ha, ← ho] at few
  rw [← ha] at a0
  rw [← ho] at o0
  have HA := Lib.hid ha
  have HO := Lib.hid ho
  have HCI := Lib.hid CI
  have HCO := Lib.hid CO
  have HOK := Lib.hid ok
  have HG := Lib.hid hg
  have HLG := Lib.hid hlg
  clear ha ho CI CO ok hcell hg hlg
  rw [← HA.out, ← HO.out] at h h2
  have hn4 : ¬ a + o < 4 := by omega
  have hx := nx_bd (last8 ts) (last8_len ts)
  go_enter Try.func16, Try.ntmps16
  go_wp2_with fail
  generalize hW : w.alloc _ = W
  have hS : RS w w.heap.size W := by rw [← hW]; exact RS.start w
  obtain ⟨r, hr⟩ : ∃ r, r = w.heap.size := ⟨_, rfl⟩
  rw [← hr] at hS ⊢
  have HS := Lib.hid hS
  clear hW hr hS
  refine (HCI.out W HS.out.below 0).mono ?_
  rintro e w' ⟨rfl, n1, rfl⟩
  go_wp2_with fail
  refine (HCO.out W HS.out.below _).mono ?_
  rintro e w' ⟨rfl, n2, rfl⟩
  go_wp2_with fail
  refine (HCO.out W HS.out.below _).mono ?_
  rintro e w' ⟨rfl, n3, rfl⟩
  go_wp2_with fail
  generalize hg2 : W.drewN _ = W2
  have HS2 := Lib.hid (show RS w r W2 by rw [← hg2]; exact HS.out.drewN _)
  clear hg2
  refine (HCL.out W2 HS2.out.below).mono ?_
  rintro e w3 ⟨v, xs, rfl, rfl, hown, hb3⟩
  have HS3 := Lib.hid (HS2.out.next hb3)
  have CN := next_any v (last8 ts) w3 (Sl.of_own hown)
  rw [last8_small (last8_len ts)] at CN
  obtain ⟨x, hxe⟩ : ∃ x, x = nx (last8 ts) := ⟨_, rfl⟩
  rw [← hxe] at CN hx
  have HCN := Lib.hid CN
  have HXE := Lib.hid hxe
  clear hown hb3 CN hxe
  go_wp2_with fail
  refine (HCN.out).mono ?_
  rintro e w' ⟨rfl, n4, rfl⟩
  go_wp2_with fail
  generalize hg4 : w3.drewN _ = W4
  have HS4 := Lib.hid (show RS w r W4 by rw [← hg4]; exact HS3.out.drewN _)
  clear hg4
  refine (ahead_any x W4 hx.1 hx.2).mono ?_
  intro e w9 hx
  have HS9 := Lib.hid (HS4.out.next hx.2)
  obtain ⟨rfl, -⟩ := hx
  unfold Win.val wcast
  simp only
  generalize hv : max ((x * 115 + 99) / 100) (x * 85 / 100 + 1) = q
  generalize hv2 : x * 85 / 100 = p at hv ⊢
  have HV := Lib.hid hv
  have HV2 := Lib.hid hv2
  clear hv hv2
  obtain ⟨c0, c1, c2, f0, f1, f2⟩ := HS9.out.facts
  go_wp2
  exact bodyPost_ret (v := .agg #[.int .i64 2, .int .i64 p, .int .i64 q]) (by simp [results, Try.results16, go_sem, c0, c1, c2]) rfl (RetW.mk (by rw [← HXE.out, ← HV.out, ← HV2.out]; rfl) (HS9.out.three _ _ _))

set_option maxHeartbeats 2000000 in
theorem of_flat (g k : Nat) (s : S) (ts : List Int) (w : World) (hg : Blk w g 62 s.cells) (ok : Ok s) (hr : Rg w k ts) (h : 4 ≤ s.a + s.o) (h2 : ¬ s.a + s.o < 2 * s.o) (h3 : s.spread = false) : Calls Try.prog 16 #[.pointer (some ⟨g, 0, none⟩), .pointer (some ⟨k, 0, none⟩)] w (RetW wfix w) := by
  clear hr
  have hcell : Blk w g 62 (hc s.bs s.a s.o) := hg
  have hlg := hg.lt
  have a0 := ok.a0
  have o0 := ok.over
  have few := ok.few
  obtain ⟨a, ha⟩ : ∃ a, a = s.a := ⟨_, rfl⟩
  obtain ⟨o, ho⟩ : ∃ a, a = s.o := ⟨_, rfl⟩
  have CI : ∀ W : World, Below w.heap.size w W → ∀ n, Calls Try.prog 20 #[.pointer (some ⟨g, 0, none⟩)] (W.drewN n) (RetI a (W.drewN n)) := fun W hb n => by rw [ha]; exact in_any g s.bs s.a s.o _ ((hcell.below hb hlg).drewN n) ok.len
  have CO : ∀ W : World, Below w.heap.size w W → ∀ n, Calls Try.prog 19 #[.pointer (some ⟨g, 0, none⟩)] (W.drewN n) (RetI o (W.drewN n)) := fun W hb n => by rw [ho]; exact over_any g s.bs s.a s.o _ ((hcell.below hb hlg).drewN n) ok.len
  rw [← ha, ← ho] at few
  rw [← ha] at a0
  rw [← ho] at o0
  have HA := Lib.hid ha
  have HO := Lib.hid ho
  have HCI := Lib.hid CI
  have HCO := Lib.hid CO
  have HOK := Lib.hid ok
  have HG := Lib.hid hg
  have HLG := Lib.hid hlg
  clear ha ho CI CO ok hcell hg hlg
  rw [← HA.out, ← HO.out] at h h2
  have hn4 : ¬ a + o < 4 := by omega
  have CS : ∀ W : World, Below w.heap.size w W → ∀ n, Calls Try.prog 31 #[.pointer (some ⟨g, 0, none⟩)] (W.drewN n) (RetB s.spread (W.drewN n)) := fun W hb n => spread_any g s _ ((HG.out.below hb HLG.out).drewN n) HOK.out
  rw [h3] at CS
  have HCS := Lib.hid CS
  clear CS h3
  go_enter Try.func16, Try.ntmps16
  go_wp2_with fail
  generalize hW : w.alloc _ = W
  have hS : RS w w.heap.size W := by rw [← hW]; exact RS.start w
  obtain ⟨r, hr⟩ : ∃ r, r = w.heap.size := ⟨_, rfl⟩
  rw [← hr] at hS ⊢
  have HS := Lib.hid hS
  clear hW hr hS
  refine (HCI.out W HS.out.below 0).mono ?_
  rintro e w' ⟨rfl, n1, rfl⟩
  go_wp2_with fail
  refine (HCO.out W HS.out.below _).mono ?_
  rintro e w' ⟨rfl, n2, rfl⟩
  go_wp2_with fail
  refine (HCO.out W HS.out.below _).mono ?_
  rintro e w' ⟨rfl, n3, rfl⟩
  go_wp2_with fail
  refine (HCS.out W HS.out.below _).mono ?_
  rintro e w' ⟨rfl, n4, rfl⟩
  go_wp2_with fail
  generalize hg2 : W.drewN _ = W2
  have HS2 := Lib.hid (show RS w r W2 by rw [← hg2]; exact HS.out.drewN _)
  clear hg2
  refine (fixed_any _).mono ?_
  intro e w9 hx
  have HS9 := Lib.hid (HS2.out.next hx.2)
  obtain ⟨rfl, -⟩ := hx
  unfold Win.val wfix
  obtain ⟨c0, c1, c2, f0, f1, f2⟩ := HS9.out.facts
  go_wp2
  exact bodyPost_ret (v := .agg #[.int .i64 0, .int .i64 0, .int .i64 10]) (by simp [results, Try.results16, go_sem, c0, c1, c2]) rfl (RetW.mk rfl (HS9.out.three _ _ _))

theorem cut_lt (s : S) (p : Int) : s.cut p < 240 := by
  unfold S.cut
  split
  · next h => exact (Classical.choose_spec h).lt
  · omega
set_option maxHeartbeats 2000000 in
theorem of_hist (g k : Nat) (s : S) (ts : List Int) (w : World) (hg : Blk w g 62 s.cells) (ok : Ok s) (hr : Rg w k ts) (h : 4 ≤ s.a + s.o) (h2 : ¬ s.a + s.o < 2 * s.o) (h3 : s.spread = true) : Calls Try.prog 16 #[.pointer (some ⟨g, 0, none⟩), .pointer (some ⟨k, 0, none⟩)] w (RetW (whist (s.cut 5) (s.cut 99)) w) := by
  clear hr
  have hcell : Blk w g 62 (hc s.bs s.a s.o) := hg
  have hlg := hg.lt
  have a0 := ok.a0
  have o0 := ok.over
  have few := ok.few
  obtain ⟨a, ha⟩ : ∃ a, a = s.a := ⟨_, rfl⟩
  obtain ⟨o, ho⟩ : ∃ a, a = s.o := ⟨_, rfl⟩
  have CI : ∀ W : World, Below w.heap.size w W → ∀ n, Calls Try.prog 20 #[.pointer (some ⟨g, 0, none⟩)] (W.drewN n) (RetI a (W.drewN n)) := fun W hb n => by rw [ha]; exact in_any g s.bs s.a s.o _ ((hcell.below hb hlg).drewN n) ok.len
  have CO : ∀ W : World, Below w.heap.size w W → ∀ n, Calls Try.prog 19 #[.pointer (some ⟨g, 0, none⟩)] (W.drewN n) (RetI o (W.drewN n)) := fun W hb n => by rw [ho]; exact over_any g s.bs s.a s.o _ ((hcell.below hb hlg).drewN n) ok.len
  rw [← ha, ← ho] at few
  rw [← ha] at a0
  rw [← ho] at o0
  have HA := Lib.hid ha
  have HO := Lib.hid ho
  have HCI := Lib.hid CI
  have HCO := Lib.hid CO
  have HOK := Lib.hid ok
  have HG := Lib.hid hg
  have HLG := Lib.hid hlg
  clear ha ho CI CO ok hcell hg hlg
  rw [← HA.out, ← HO.out] at h h2
  have hn4 : ¬ a + o < 4 := by omega
  have CS : ∀ W : World, Below w.heap.size w W → ∀ n, Calls Try.prog 31 #[.pointer (some ⟨g, 0, none⟩)] (W.drewN n) (RetB s.spread (W.drewN n)) := fun W hb n => spread_any g s _ ((HG.out.below hb HLG.out).drewN n) HOK.out
  rw [h3] at CS
  have CC : ∀ W : World, Below w.heap.size w W → ∀ n p, Calls Try.prog 32 #[.pointer (some ⟨g, 0, none⟩), .int .i64 p] (W.drewN n) (RetC (s.cut p : Int) (decide (0 < s.a)) (W.drewN n)) := fun W hb n p => cut_any g s p _ ((HG.out.below hb HLG.out).drewN n) HOK.out
  have HCS := Lib.hid CS
  have HCC := Lib.hid CC
  have l1 := cut_lt s 5
  have l2 := cut_lt s 99
  obtain ⟨u, hu⟩ : ∃ u, u = s.cut 5 := ⟨_, rfl⟩
  obtain ⟨v, hv⟩ : ∃ u, u = s.cut 99 := ⟨_, rfl⟩
  rw [← hu] at l1
  rw [← hv] at l2
  have C5 : ∀ W : World, Below w.heap.size w W → ∀ n, Calls Try.prog 32 #[.pointer (some ⟨g, 0, none⟩), .int .i64 5] (W.drewN n) (RetC (u : Int) (decide (0 < s.a)) (W.drewN n)) := fun W hb n => by rw [hu]; exact CC W hb n 5
  have C99 : ∀ W : World, Below w.heap.size w W → ∀ n, Calls Try.prog 32 #[.pointer (some ⟨g, 0, none⟩), .int .i64 99] (W.drewN n) (RetC (v : Int) (decide (0 < s.a)) (W.drewN n)) := fun W hb n => by rw [hv]; exact CC W hb n 99
  have CF := fun w => Num.frac_any u 9 10 w ⟨by omega, by omega⟩ ⟨by omega, by omega⟩ ⟨by omega, by omega⟩
  have CG := fun w => Num.fracUp_any (v + 1) 11 10 w ⟨by omega, by omega⟩ ⟨by omega, by omega⟩ ⟨by omega, by omega⟩
  rw [frac_small (by omega) (by omega) (by omega) (by omega) (by omega)] at CF
  rw [fracUp_small (by omega) (by omega) (by omega) (by omega) (by omega)] at CG
  have HUV := Lib.hid (And.intro hu hv)
  have HC5 := Lib.hid C5
  have HC99 := Lib.hid C99
  have HCF := Lib.hid CF
  have HCG := Lib.hid CG
  obtain ⟨b, hb⟩ : ∃ b, b = decide (0 < s.a) := ⟨_, rfl⟩
  rw [← hb] at HC5 HC99
  clear CS CC h3 hu hv C5 C99 CF CG hb HCC
  go_enter Try.func16, Try.ntmps16
  go_wp2_with fail
  generalize hW : w.alloc _ = W
  have hS : RS w w.heap.size W := by rw [← hW]; exact RS.start w
  obtain ⟨r, hr⟩ : ∃ r, r = w.heap.size := ⟨_, rfl⟩
  rw [← hr] at hS ⊢
  have HS := Lib.hid hS
  clear hW hr hS
  refine (HCI.out W HS.out.below 0).mono ?_
  rintro e w' ⟨rfl, n1, rfl⟩
  go_wp2_with fail
  refine (HCO.out W HS.out.below _).mono ?_
  rintro e w' ⟨rfl, n2, rfl⟩
  go_wp2_with fail
  refine (HCO.out W HS.out.below _).mono ?_
  rintro e w' ⟨rfl, n3, rfl⟩
  go_wp2_with fail
  refine (HCS.out W HS.out.below _).mono ?_
  rintro e w' ⟨rfl, n4, rfl⟩
  go_wp2_with fail
  refine (HC5.out W HS.out.below _).mono ?_
  rintro e w' ⟨rfl, n5, rfl⟩
  go_wp2_with fail
  refine (HC99.out W HS.out.below _).mono ?_
  rintro e w' ⟨rfl, n6, rfl⟩
  go_wp2_with fail
  refine (HCF.out _).mono ?_
  rintro e w' ⟨rfl, n7, rfl⟩
  go_wp2_with fail
  refine (HCG.out _).mono ?_
  rintro e w' ⟨rfl, n8, rfl⟩
  generalize hg9 : (W.drewN _).drewN _ = W9
  have HS9 := Lib.hid (show RS w r W9 by rw [← hg9]; exact (HS.out.drewN _).drewN _)
  clear hg9
  generalize hp : (u : Int) * 9 / 10 = p
  generalize hq : ((v : Int) + 1) * 11 + 10 - 1 = q0
  generalize hq2 : q0 / 10 = q
  have HP := Lib.hid hp
  have HQ := Lib.hid hq
  have HQ2 := Lib.hid hq2
  clear hp hq hq2
  obtain ⟨c0, c1, c2, f0, f1, f2⟩ := HS9.out.facts
  go_wp2
  exact bodyPost_ret (v := .agg #[.int .i64 1, .int .i64 p, .int .i64 q]) (by simp [results, Try.results16, go_sem, c0, c1, c2]) rfl (RetW.mk (by unfold Win.val whist; rw [← HUV.out.1, ← HUV.out.2, ← HP.out, ← HQ2.out, ← HQ.out, show ((v : Int) + 1) * 11 + 10 - 1 = v * 11 + 20 by omega]) (HS9.out.three _ _ _))

theorem of_any (g k : Nat) (s : S) (ts : List Int) (w : World) (hg : Blk w g 62 s.cells) (ok : Ok s) (hr : Rg w k ts) : Calls Try.prog 16 #[.pointer (some ⟨g, 0, none⟩), .pointer (some ⟨k, 0, none⟩)] w (RetW (win s ts) w) := by
  unfold win
  by_cases h : s.a + s.o < 4
  · rw [if_pos h]; exact of_few g k s ts w hg ok hr h
  · rw [if_neg h]
    by_cases h2 : s.a + s.o < 2 * s.o
    · rw [if_pos h2]; exact of_far g k s ts w hg ok hr (by omega) h2
    · rw [if_neg h2]
      by_cases h3 : s.spread = false
      · rw [if_pos h3]; exact of_flat g k s ts w hg ok hr (by omega) h2 h3
      · rw [if_neg h3]; exact of_hist g k s ts w hg ok hr (by omega) h2 (by simpa using h3)
end Go.Proofs.Ytopbhdpfakjkjaa.Policy
