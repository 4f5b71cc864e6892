/- Proved: what the methods of host.Hosts answer, and leave in its block. -/
import Derived.Test.YtjmdgicdpggljaaGreatM07
import Derived.BigRegion
import Derived.Lib.MinMax
import Derived.Deep.DeepCutAuto
import Derived.Deep.CutBlock
set_option linter.all false
namespace Go.Proofs.YtjmdgicdpggljaaGreat.GH
open Go.RowKit Go.Proofs.YtjmdgicdpggljaaGreat.Histo
set_option linter.unusedVariables false

def Mach.cells (x : Mach) : List Value := [.bool x.there, .bool x.drain, .int .i64 x.size, .int .i64 x.used]
def Hosts.cells (s : Hosts) : Array Value := (s.flatMap Mach.cells).toArray
structure Hosts.Ok (s : Hosts) : Prop where
  n : s.length = 32
  m : ∀ x ∈ s, 0 ≤ x.used ∧ x.used ≤ x.size ∧ x.size ≤ 4096
abbrev HostsAt (w : World) (p : Nat) (s : Hosts) : Prop := Blk w p 86 s.cells
theorem h_cell {w : World} {p : Nat} {s : Hosts} (h : HostsAt w p s) (ok : s.Ok) {k r : Nat} (hk : k < 32) (hr : r < 4) : w.cell? ⟨p, k * 4 + r, none⟩ = (s.getD k Mach.none).cells[r]? := by
  rw [h.cell, Hosts.cells, List.getElem?_toArray, show k * 4 + r = 4 * k + r by omega, flat_get (z := 4) (fun _ => rfl) hr, getD_some (by rw [ok.n]; exact hk)]
  rfl
theorem h_ok {s : Hosts} (ok : s.Ok) {k : Nat} (hk : k < 32) : 0 ≤ (s.getD k Mach.none).used ∧ (s.getD k Mach.none).used ≤ (s.getD k Mach.none).size ∧ (s.getD k Mach.none).size ≤ 4096 :=
  ok.m _ (List.mem_of_getElem? (getD_some (by rw [ok.n]; exact hk) _))
theorem h_set {w : World} {p : Nat} {s : Hosts} (h : HostsAt w p s) (ok : s.Ok) {k r : Nat} (hk : k < 32) (hr : r < 4) {v : Value} {y : Mach} (hy : y.cells = (s.getD k Mach.none).cells.set r v) :
    HostsAt (w.setCell ⟨p, k * 4 + r, none⟩ v) p (s.set k y) := by
  have := h.set_ (k * 4 + r) v
  have e : s.cells.setIfInBounds (k * 4 + r) v = Hosts.cells (s.set k y) := by
    unfold Hosts.cells
    rw [List.setIfInBounds_toArray, show k * 4 + r = 4 * k + r by omega, flat_set (z := 4) (fun _ => rfl) hr hy _ _ (getD_some (by rw [ok.n]; exact hk) _)]
  rw [e] at this
  exact this
theorem h_set4 {w : World} {p : Nat} {s : Hosts} (h : HostsAt w p s) (hn : s.length = 32) {k : Nat} (hk : k < 32) (a b : Bool) (c d : Int) :
    HostsAt ((((w.setCell ⟨p, k * 4, none⟩ (.bool a)).setCell ⟨p, k * 4 + 1, none⟩ (.bool b)).setCell ⟨p, k * 4 + 2, none⟩ (.int .i64 c)).setCell ⟨p, k * 4 + 3, none⟩ (.int .i64 d)) p (s.set k ⟨a, b, c, d⟩) := by
  have hb := (((h.set_ (k * 4) (.bool a)).set_ (k * 4 + 1) (.bool b)).set_ (k * 4 + 2) (.int .i64 c)).set_ (k * 4 + 3) (.int .i64 d)
  obtain ⟨y, hy⟩ : ∃ y, s[k]? = some y := ⟨_, getD_some (by omega) Mach.none⟩
  have e : (((s.cells.setIfInBounds (k * 4) (.bool a)).setIfInBounds (k * 4 + 1) (.bool b)).setIfInBounds (k * 4 + 2) (.int .i64 c)).setIfInBounds (k * 4 + 3) (.int .i64 d) = Hosts.cells (s.set k ⟨a, b, c, d⟩) := by
    unfold Hosts.cells
    simp only [List.setIfInBounds_toArray]
    rw [show k * 4 = 4 * k + 0 by omega, flat_set (z := 4) (r := 0) (y := ({ y with there := a } : Mach)) (fun _ => rfl) (by omega) rfl _ _ hy, show 4 * k + 0 + 1 = 4 * k + 1 by omega, show 4 * k + 0 + 2 = 4 * k + 2 by omega, show 4 * k + 0 + 3 = 4 * k + 3 by omega,
      flat_set (z := 4) (r := 1) (x := ({ y with there := a } : Mach)) (y := ({ y with there := a, drain := b } : Mach)) (fun _ => rfl) (by omega) rfl _ _ (List.getElem?_set_self (by omega)),
      flat_set (z := 4) (r := 2) (x := ({ y with there := a, drain := b } : Mach)) (y := ({ y with there := a, drain := b, size := c } : Mach)) (fun _ => rfl) (by omega) rfl _ _ (List.getElem?_set_self (by rw [List.length_set]; omega)),
      flat_set (z := 4) (r := 3) (x := ({ y with there := a, drain := b, size := c } : Mach)) (y := ({ there := a, drain := b, size := c, used := d } : Mach)) (fun _ => rfl) (by omega) rfl _ _ (List.getElem?_set_self (by rw [List.length_set, List.length_set]; omega)),
      List.set_set, List.set_set, List.set_set]
  rw [e] at hb
  exact hb
theorem hnew_any (w : World) : Calls Tryz.prog 12 #[] w fun e w' => e = .returned (.pointer (some ⟨w.heap.size, 0, none⟩)) ∧ w' = w.alloc (.cells (Hosts.cells (List.replicate 32 Mach.none)) 86) := by
  go_enter Tryz.func12, Tryz.ntmps12
  go_wp2
  go_ret
  exact ⟨rfl, rfl⟩
set_option maxHeartbeats 4000000 in
theorem hthere_any (p : Nat) (s : Hosts) (h : Int) (w : World) (hb : HostsAt w p s) (ok : s.Ok) : Calls Tryz.prog 93 #[.pointer (some ⟨p, 0, none⟩), .int .i64 h] w (RetV (.bool (s.there h)) w) := by
  by_cases h0 : 0 ≤ h
  · by_cases h1 : h < 32
    · obtain ⟨n, rfl⟩ : ∃ n : Nat, h = n := ⟨h.toNat, by omega⟩
      have c0 : w.cell? ⟨p, n * 4, none⟩ = some (.bool (s.getD n Mach.none).there) := h_cell (k := n) (r := 0) hb ok (by omega) (by omega)
      have e : s.there (n : Int) = (s.getD n Mach.none).there := by unfold Hosts.there Hosts.ok Hosts.at_; simp [h1]
      rw [e]
      obtain ⟨x, hx⟩ : ∃ x, x = (s.getD n Mach.none).there := ⟨_, rfl⟩
      rw [← hx] at c0 ⊢
      clear hx e
      go_enter Tryz.func93, Tryz.ntmps93
      go_wp2
      go_ret
      exact ⟨rfl, 0, rfl⟩
    · have e : s.there h = false := by unfold Hosts.there Hosts.ok; simp [h1]
      rw [e]
      clear e
      go_enter Tryz.func93, Tryz.ntmps93
      go_wp2
      go_ret
      exact ⟨rfl, 0, rfl⟩
  · have e : s.there h = false := by unfold Hosts.there Hosts.ok; simp [h0]
    rw [e]
    clear e
    go_enter Tryz.func93, Tryz.ntmps93
    go_wp2
    go_ret
    exact ⟨rfl, 0, rfl⟩
theorem there_lt {s : Hosts} {h : Int} (e : s.there h = true) : 0 ≤ h ∧ h < 32 := by unfold Hosts.there Hosts.ok at e; simp at e; omega
set_option maxHeartbeats 4000000 in
theorem hThere_any (p : Nat) (s : Hosts) (h : Int) (w : World) (hb : HostsAt w p s) (ok : s.Ok) : Calls Tryz.prog 56 #[.pointer (some ⟨p, 0, none⟩), .int .i64 h] w (RetV (.bool (s.there h)) w) := by
  have ht := hthere_any p s h w hb ok
  go_enter Tryz.func56, Tryz.ntmps56
  go_wp2_with (go_at_call 93; refine ht.mono ?_; rintro e w1 ⟨rfl, n1, rfl⟩)
  go_ret
  exact ⟨rfl, _, rfl⟩
set_option maxHeartbeats 4000000 in
theorem hup_any (p : Nat) (s : Hosts) (h : Int) (w : World) (hb : HostsAt w p s) (ok : s.Ok) : Calls Tryz.prog 73 #[.pointer (some ⟨p, 0, none⟩), .int .i64 h] w (RetV (.bool (s.up h)) w) := by
  have ht := hthere_any p s h w hb ok
  cases e : s.there h
  · rw [e] at ht
    have eu : s.up h = false := by unfold Hosts.up; rw [e]; rfl
    rw [eu]
    clear e eu
    go_enter Tryz.func73, Tryz.ntmps73
    go_wp2_with (go_at_call 93; refine ht.mono ?_; rintro e w1 ⟨rfl, n1, rfl⟩)
    go_ret
    exact ⟨rfl, _, rfl⟩
  · rw [e] at ht
    obtain ⟨h0, h1⟩ := there_lt e
    obtain ⟨n, rfl⟩ : ∃ n : Nat, h = n := ⟨h.toNat, by omega⟩
    have eu : s.up (n : Int) = !(s.getD n Mach.none).drain := by unfold Hosts.up; rw [e]; rfl
    rw [eu]
    have c1 : w.cell? ⟨p, n * 4 + 1, none⟩ = some (.bool (s.getD n Mach.none).drain) := h_cell (k := n) (r := 1) hb ok (by omega) (by omega)
    obtain ⟨x, hx⟩ : ∃ x, x = (s.getD n Mach.none).drain := ⟨_, rfl⟩
    rw [← hx] at c1 ⊢
    clear hx e eu
    go_enter Tryz.func73, Tryz.ntmps73
    go_wp2_with (go_at_call 93; refine ht.mono ?_; rintro e w1 ⟨rfl, n1, rfl⟩)
    go_ret
    exact ⟨rfl, _, rfl⟩
set_option maxHeartbeats 4000000 in
theorem hfree_any (p : Nat) (s : Hosts) (h : Int) (w : World) (hb : HostsAt w p s) (ok : s.Ok) : Calls Tryz.prog 107 #[.pointer (some ⟨p, 0, none⟩), .int .i64 h] w (RetV (.int .i64 (s.free h)) w) := by
  have ht := hthere_any p s h w hb ok
  unfold Hosts.free
  cases e : s.there h
  · rw [e] at ht
    rw [if_neg (by simp)]
    clear e
    go_enter Tryz.func107, Tryz.ntmps107
    go_wp2_with (go_at_call 93; refine ht.mono ?_; rintro e w1 ⟨rfl, n1, rfl⟩)
    go_ret
    exact ⟨rfl, _, rfl⟩
  · rw [e] at ht
    rw [if_pos rfl]
    obtain ⟨h0, h1⟩ := there_lt e
    obtain ⟨n, rfl⟩ : ∃ n : Nat, h = n := ⟨h.toNat, by omega⟩
    have hat : s.at_ (n : Int) = s.getD n Mach.none := rfl
    rw [hat]
    have c2 : w.cell? ⟨p, n * 4 + 2, none⟩ = some (.int .i64 (s.getD n Mach.none).size) := h_cell (k := n) (r := 2) hb ok (by omega) (by omega)
    have c3 : w.cell? ⟨p, n * 4 + 3, none⟩ = some (.int .i64 (s.getD n Mach.none).used) := h_cell (k := n) (r := 3) hb ok (by omega) (by omega)
    obtain ⟨u0, u1, u2⟩ := h_ok ok (k := n) (by omega)
    obtain ⟨x, hx⟩ : ∃ x, x = s.getD n Mach.none := ⟨_, rfl⟩
    rw [← hx] at c2 c3 u0 u1 u2 ⊢
    obtain ⟨xt, xd, xs, xu⟩ := x
    simp only at c2 c3 u0 u1 u2 ⊢
    clear hx e hat
    go_enter Tryz.func107, Tryz.ntmps107
    go_wp2_with (go_at_call 93; refine ht.mono ?_; rintro e w1 ⟨rfl, n1, rfl⟩)
    go_quiet (fail)
    go_wp2
    go_ret
    exact ⟨rfl, _, World.drewN_drewN _ _ _⟩
end Go.Proofs.YtjmdgicdpggljaaGreat.GH

/- Proved: what host.Hosts's Add, Drain, Fail, Take, Give and Fit answer, and leave in its block. -/
namespace Go.Proofs.YtjmdgicdpggljaaGreat.GH
open Go.RowKit Go.Proofs.YtjmdgicdpggljaaGreat.Histo
set_option linter.unusedVariables false

def HWrote (p : Nat) (s' : Hosts) (v : Value) (w : World) (e : Ending) (w' : World) : Prop := e = .returned v ∧ HostsAt w' p s' ∧ w.grownBy w' (some p)
theorem HWrote.mk {p : Nat} {s s' : Hosts} {v v' : Value} {w w' : World} (hv : v = v') (hq : HostsAt w' p s) (he : s = s') (hg : w.grownBy w' (some p)) : HWrote p s' v' w (.returned v) w' := by subst hv; subst he; exact ⟨rfl, hq, hg⟩
set_option maxRecDepth 100000 in
set_option maxHeartbeats 8000000 in
theorem hsweep_any (p n : Nat) (s : Hosts) (w : World) (hb : HostsAt w p s) (ok : s.Ok) (hn : n < 32) : Calls Tryz.prog 94 #[.pointer (some ⟨p, 0, none⟩), .int .i64 (n : Int)] w (HWrote p (s.sweep n) (.tuple #[]) w) := by
  have c0 : w.cell? ⟨p, n * 4, none⟩ = some (.bool (s.getD n Mach.none).there) := h_cell (k := n) (r := 0) hb ok (by omega) (by omega)
  have c1 : w.cell? ⟨p, n * 4 + 1, none⟩ = some (.bool (s.getD n Mach.none).drain) := h_cell (k := n) (r := 1) hb ok (by omega) (by omega)
  have c2 : w.cell? ⟨p, n * 4 + 2, none⟩ = some (.int .i64 (s.getD n Mach.none).size) := h_cell (k := n) (r := 2) hb ok (by omega) (by omega)
  have c3 : w.cell? ⟨p, n * 4 + 3, none⟩ = some (.int .i64 (s.getD n Mach.none).used) := h_cell (k := n) (r := 3) hb ok (by omega) (by omega)
  have f0 := hb.frozen (n * 4)
  have f1 := hb.frozen (n * 4 + 1)
  have f2 := hb.frozen (n * 4 + 2)
  have f3 := hb.frozen (n * 4 + 3)
  have es : s.sweep n = if (s.getD n Mach.none).drain = true ∧ (s.getD n Mach.none).used = 0 then s.set n Mach.none else s := rfl
  have hset : ∀ W, HostsAt W p s → HostsAt ((((W.setCell ⟨p, n * 4, none⟩ (.bool false)).setCell ⟨p, n * 4 + 1, none⟩ (.bool false)).setCell ⟨p, n * 4 + 2, none⟩ (.int .i64 0)).setCell ⟨p, n * 4 + 3, none⟩ (.int .i64 0)) p (s.set n Mach.none) := fun W hW => h_set4 hW ok.n hn false false 0 0
  have HS := Lib.hid hset
  have H := Lib.hid hb
  have hp := hb.lt
  obtain ⟨Y, hY⟩ : ∃ Y, Y = s.set n Mach.none := ⟨_, rfl⟩
  obtain ⟨X, hX⟩ : ∃ X, X = s.sweep n := ⟨_, rfl⟩
  rw [← hX] at es ⊢
  obtain ⟨x, hx⟩ : ∃ x, x = s.getD n Mach.none := ⟨_, rfl⟩
  rw [← hx] at c0 c1 c2 c3 es
  obtain ⟨xt, xd, xs, xu⟩ := x
  simp only at c0 c1 c2 c3 es
  have ES := Lib.hid es
  have n0 : (n : Int) < 32 := by omega
  clear hX hx es hset hb hY
  cases xd
  · go_enter Tryz.func94, Tryz.ntmps94
    go_wp2
    go_end0
    exact HWrote.mk rfl (H.out.alloc _) (by rw [ES.out]; simp) (only_alloc (only_refl _ _) _)
  · by_cases h0 : xu = 0
    · have e0 : (xu == 0) = true := by simp [h0]
      have H0 := Lib.hid h0
      clear h0
      go_enter Tryz.func94, Tryz.ntmps94
      go_upto_region 2 with (fail)
      obtain ⟨W, hW⟩ : ∃ W, W = w.alloc (.cells #[.bool xt, .bool true, .int .i64 xs, .int .i64 xu] 83) := ⟨_, rfl⟩
      have hbW : HostsAt W p s := by rw [hW]; exact H.out.alloc _
      have hgW : w.grownBy W (some p) := by rw [hW]; exact only_alloc (only_refl _ _) _
      have e : W.heap[p]? = w.heap[p]? := hbW.trans H.out.symm
      rw [← hW]
      clear hW
      have g0 : W.cell? ⟨p, n * 4, none⟩ = some (.bool xt) := by unfold World.cell? at c0 ⊢; rw [e]; exact c0
      have g1 : W.cell? ⟨p, n * 4 + 1, none⟩ = some (.bool true) := by unfold World.cell? at c1 ⊢; rw [e]; exact c1
      have g2 : W.cell? ⟨p, n * 4 + 2, none⟩ = some (.int .i64 xs) := by unfold World.cell? at c2 ⊢; rw [e]; exact c2
      have g3 : W.cell? ⟨p, n * 4 + 3, none⟩ = some (.int .i64 xu) := by unfold World.cell? at c3 ⊢; rw [e]; exact c3
      have k0 := hbW.frozen (n * 4)
      have k1 := hbW.frozen (n * 4 + 1)
      have k2 := hbW.frozen (n * 4 + 2)
      have k3 := hbW.frozen (n * 4 + 3)
      have HB := Lib.hid hbW
      have HG := Lib.hid hgW
      clear c0 c1 c2 c3 f0 f1 f2 f3 e hbW hgW
      go_wp2
      go_end0
      exact HWrote.mk rfl (HS.out _ HB.out) (by rw [ES.out]; simp [H0.out]) (only_at (only_at (only_at (only_at HG.out _ _) _ _) _ _) _ _)
    · have e0 : (xu == 0) = false := by simpa using h0
      have H0 := Lib.hid h0
      clear h0
      go_enter Tryz.func94, Tryz.ntmps94
      go_wp2
      go_end0
      exact HWrote.mk rfl (H.out.alloc _) (by rw [ES.out, if_neg (fun h => H0.out h.2)]) (only_alloc (only_refl _ _) _)
set_option maxRecDepth 100000 in
set_option maxHeartbeats 8000000 in
theorem hadd_any (p : Nat) (s : Hosts) (h size : Int) (w : World) (hb : HostsAt w p s) (ok : s.Ok) : Calls Tryz.prog 24 #[.pointer (some ⟨p, 0, none⟩), .int .i64 h, .int .i64 size] w (HWrote p (s.add h size).2 (.int .i64 (s.add h size).1) w) := by
  have H := Lib.hid hb
  by_cases hc : h < 0 ∨ 32 ≤ h ∨ size < 1 ∨ 4096 < size
  · have e : s.add h size = (1, s) := by unfold Hosts.add; rw [if_pos hc]
    rw [e]
    have HC := Lib.hid hc
    clear e hc hb
    go_enter Tryz.func24, Tryz.ntmps24
    go_wp2_with (fail)
    all_goals first
      | (go_ret; exact HWrote.mk rfl H.out rfl (only_refl _ _))
      | (exfalso; have := HC.out; omega)
  · obtain ⟨n, rfl⟩ : ∃ n : Nat, h = n := ⟨h.toNat, by omega⟩
    have hn : n < 32 := by omega
    have n0 : (n : Int) < 32 := by omega
    have e : s.add n size = if (s.getD n Mach.none).there = true then (3, s) else (0, s.set n ⟨true, false, size, 0⟩) := by unfold Hosts.add; rw [if_neg hc]; rfl
    have s0 : 1 ≤ size := by omega
    have s1 : size ≤ 4096 := by omega
    have c0 : w.cell? ⟨p, n * 4, none⟩ = some (.bool (s.getD n Mach.none).there) := h_cell (k := n) (r := 0) hb ok (by omega) (by omega)
    have c1 : w.cell? ⟨p, n * 4 + 1, none⟩ = some (.bool (s.getD n Mach.none).drain) := h_cell (k := n) (r := 1) hb ok (by omega) (by omega)
    have c2 : w.cell? ⟨p, n * 4 + 2, none⟩ = some (.int .i64 (s.getD n Mach.none).size) := h_cell (k := n) (r := 2) hb ok (by omega) (by omega)
    have c3 : w.cell? ⟨p, n * 4 + 3, none⟩ = some (.int .i64 (s.getD n Mach.none).used) := h_cell (k := n) (r := 3) hb ok (by omega) (by omega)
    have f0 := hb.frozen (n * 4)
    have f1 := hb.frozen (n * 4 + 1)
    have f2 := hb.frozen (n * 4 + 2)
    have f3 := hb.frozen (n * 4 + 3)
    have hset := h_set4 hb ok.n hn true false size 0
    have HS := Lib.hid hset
    obtain ⟨Y, hY⟩ : ∃ Y, Y = s.set n ⟨true, false, size, 0⟩ := ⟨_, rfl⟩
    rw [← hY] at e
    have HY := Lib.hid hY
    obtain ⟨x, hx⟩ : ∃ x, x = s.getD n Mach.none := ⟨_, rfl⟩
    rw [← hx] at c0 c1 c2 c3 e
    obtain ⟨xt, xd, xs, xu⟩ := x
    simp only at c0 c1 c2 c3 e
    rw [e]
    clear hx e hset hb hY hc
    cases xt
    · go_enter Tryz.func24, Tryz.ntmps24
      go_wp2_with (fail)
      go_ret
      exact HWrote.mk rfl HS.out HY.out.symm (only_at (only_at (only_at (only_at (only_refl _ _) _ _) _ _) _ _) _ _)
    · go_enter Tryz.func24, Tryz.ntmps24
      go_wp2_with (fail)
      go_ret
      exact HWrote.mk rfl H.out rfl (only_refl _ _)
theorem hok_set {s : Hosts} (ok : s.Ok) (n : Nat) {y : Mach} (hy : 0 ≤ y.used ∧ y.used ≤ y.size ∧ y.size ≤ 4096) : Hosts.Ok (s.set n y) := ⟨by rw [List.length_set]; exact ok.n, fun x hx => by
  rcases mem_set hx with rfl | hx
  · exact hy
  · exact ok.m x hx⟩
set_option maxRecDepth 100000 in
set_option maxHeartbeats 8000000 in
theorem hdrain_any (p : Nat) (s : Hosts) (h : Int) (w : World) (hb : HostsAt w p s) (ok : s.Ok) : Calls Tryz.prog 52 #[.pointer (some ⟨p, 0, none⟩), .int .i64 h] w (HWrote p (s.drain h).2 (.int .i64 (s.drain h).1) w) := by
  have H := Lib.hid hb
  have ht := hthere_any p s h w hb ok
  cases e : s.there h
  · rw [e] at ht
    have ed : s.drain h = (2, s) := by unfold Hosts.drain; rw [if_pos e]
    rw [ed]
    clear e ed hb
    go_enter Tryz.func52, Tryz.ntmps52
    go_wp2_with (go_at_call 93; refine ht.mono ?_; rintro e w1 ⟨rfl, n1, rfl⟩)
    go_ret
    exact HWrote.mk rfl (H.out.drewN _) rfl (only_drewN (only_refl _ _) _)
  · rw [e] at ht
    obtain ⟨h0, h1⟩ := there_lt e
    obtain ⟨n, rfl⟩ : ∃ n : Nat, h = n := ⟨h.toNat, by omega⟩
    have hn : n < 32 := by omega
    have ed : s.drain n = if (s.getD n Mach.none).drain = true then (3, s) else (0, Hosts.sweep (s.set n { s.getD n Mach.none with drain := true }) n) := by unfold Hosts.drain; rw [if_neg (by rw [e]; simp)]; rfl
    have c1 : w.cell? ⟨p, n * 4 + 1, none⟩ = some (.bool (s.getD n Mach.none).drain) := h_cell (k := n) (r := 1) hb ok (by omega) (by omega)
    have f1 := hb.frozen (n * 4 + 1)
    have hset : ∀ W, HostsAt W p s → HostsAt (W.setCell ⟨p, n * 4 + 1, none⟩ (.bool true)) p (s.set n { s.getD n Mach.none with drain := true }) := fun W hW => h_set (k := n) (r := 1) hW ok hn (by omega) rfl
    have HS := Lib.hid hset
    have ok2 : Hosts.Ok (s.set n { s.getD n Mach.none with drain := true }) := hok_set ok n (h_ok ok hn)
    have OK2 := Lib.hid ok2
    obtain ⟨Y, hY⟩ : ∃ Y, Y = s.set n { s.getD n Mach.none with drain := true } := ⟨_, rfl⟩
    rw [← hY] at ed
    have HY := Lib.hid hY
    obtain ⟨x, hx⟩ : ∃ x, x = (s.getD n Mach.none).drain := ⟨_, rfl⟩
    rw [← hx] at c1 ed
    rw [ed]
    clear hx e ed hset hb hY ok2
    cases x
    · have hsw : ∀ W, HostsAt W p Y → Calls Tryz.prog 94 #[.pointer (some ⟨p, 0, none⟩), .int .i64 (n : Int)] W (HWrote p (Hosts.sweep Y n) (.tuple #[]) W) := fun W hW => hsweep_any p n Y W hW (by rw [HY.out]; exact OK2.out) hn
      have HSW := Lib.hid hsw
      clear hsw
      go_enter Tryz.func52, Tryz.ntmps52
      go_wp2_with (first
        | (go_at_call 93; refine ht.mono ?_; rintro e w1 ⟨rfl, n1, rfl⟩)
        | (go_at_call 94; refine (HSW.out _ (by rw [HY.out]; exact HS.out _ (H.out.drewN _))).mono ?_; rintro e w2 ⟨rfl, hw2, hg2⟩))
      go_ret
      exact HWrote.mk rfl hw2 rfl (only_trans (only_at (only_drewN (only_refl _ _) _) _ _) hg2)
    · go_enter Tryz.func52, Tryz.ntmps52
      go_wp2_with (go_at_call 93; refine ht.mono ?_; rintro e w1 ⟨rfl, n1, rfl⟩)
      go_ret
      exact HWrote.mk rfl (H.out.drewN _) rfl (only_drewN (only_refl _ _) _)
set_option maxRecDepth 100000 in
set_option maxHeartbeats 8000000 in
theorem hfail_any (p : Nat) (s : Hosts) (h : Int) (w : World) (hb : HostsAt w p s) (ok : s.Ok) : Calls Tryz.prog 59 #[.pointer (some ⟨p, 0, none⟩), .int .i64 h] w (fun e w' => ∃ v, HWrote p (s.fail h) v w e w') := by
  have H := Lib.hid hb
  have ht := hthere_any p s h w hb ok
  cases e : s.there h
  · rw [e] at ht
    have ed : s.fail h = s := by unfold Hosts.fail; rw [if_pos e]
    rw [ed]
    clear e ed hb
    go_enter Tryz.func59, Tryz.ntmps59
    go_wp2_with (go_at_call 93; refine ht.mono ?_; rintro e w1 ⟨rfl, n1, rfl⟩)
    go_ret
    exact ⟨_, HWrote.mk rfl (H.out.drewN _) rfl (only_drewN (only_refl _ _) _)⟩
  · rw [e] at ht
    obtain ⟨h0, h1⟩ := there_lt e
    obtain ⟨n, rfl⟩ : ∃ n : Nat, h = n := ⟨h.toNat, by omega⟩
    have hn : n < 32 := by omega
    have ed : s.fail n = s.set n Mach.none := by unfold Hosts.fail; rw [if_neg (by rw [e]; simp)]; rfl
    have c0 : w.cell? ⟨p, n * 4, none⟩ = some (.bool (s.getD n Mach.none).there) := h_cell (k := n) (r := 0) hb ok (by omega) (by omega)
    have c1 : w.cell? ⟨p, n * 4 + 1, none⟩ = some (.bool (s.getD n Mach.none).drain) := h_cell (k := n) (r := 1) hb ok (by omega) (by omega)
    have c2 : w.cell? ⟨p, n * 4 + 2, none⟩ = some (.int .i64 (s.getD n Mach.none).size) := h_cell (k := n) (r := 2) hb ok (by omega) (by omega)
    have c3 : w.cell? ⟨p, n * 4 + 3, none⟩ = some (.int .i64 (s.getD n Mach.none).used) := h_cell (k := n) (r := 3) hb ok (by omega) (by omega)
    have f0 := hb.frozen (n * 4)
    have f1 := hb.frozen (n * 4 + 1)
    have f2 := hb.frozen (n * 4 + 2)
    have f3 := hb.frozen (n * 4 + 3)
    have hset : ∀ W, HostsAt W p s → HostsAt ((((W.setCell ⟨p, n * 4, none⟩ (.bool false)).setCell ⟨p, n * 4 + 1, none⟩ (.bool false)).setCell ⟨p, n * 4 + 2, none⟩ (.int .i64 0)).setCell ⟨p, n * 4 + 3, none⟩ (.int .i64 0)) p (s.set n Mach.none) := fun W hW => h_set4 hW ok.n hn false false 0 0
    have HS := Lib.hid hset
    rw [ed]
    obtain ⟨Y, hY⟩ : ∃ Y, Y = s.set n Mach.none := ⟨_, rfl⟩
    rw [← hY]
    have HY := Lib.hid hY
    obtain ⟨x, hx⟩ : ∃ x, x = s.getD n Mach.none := ⟨_, rfl⟩
    rw [← hx] at c0 c1 c2 c3
    obtain ⟨xt, xd, xs, xu⟩ := x
    simp only at c0 c1 c2 c3
    clear hx e ed hset hb hY
    go_enter Tryz.func59, Tryz.ntmps59
    go_wp2_with (go_at_call 93; refine ht.mono ?_; rintro e w1 ⟨rfl, n1, rfl⟩)
    go_ret
    exact ⟨_, HWrote.mk rfl (HS.out _ (H.out.drewN _)) HY.out.symm (only_at (only_at (only_at (only_at (only_drewN (only_refl _ _) _) _ _) _ _) _ _) _ _)⟩
end Go.Proofs.YtjmdgicdpggljaaGreat.GH

/- Proved: what host.Hosts's Take, Give and Fit answer, and leave in its block. -/
namespace Go.Proofs.YtjmdgicdpggljaaGreat.GH
open Go.RowKit Go.Proofs.YtjmdgicdpggljaaGreat.Histo
set_option linter.unusedVariables false

theorem up_lt {s : Hosts} {h : Int} (e : s.up h = true) : 0 ≤ h ∧ h < 32 ∧ s.there h = true := by
  unfold Hosts.up at e
  simp at e
  exact ⟨(there_lt e.1).1, (there_lt e.1).2, e.1⟩
set_option maxRecDepth 100000 in
set_option maxHeartbeats 8000000 in
theorem htake_any (p : Nat) (s : Hosts) (h mem : Int) (w : World) (hb : HostsAt w p s) (ok : s.Ok) : Calls Tryz.prog 111 #[.pointer (some ⟨p, 0, none⟩), .int .i64 h, .int .i64 mem] w (fun e w' => ∃ v, HWrote p (s.take h mem) v w e w') := by
  have H := Lib.hid hb
  have hu := hup_any p s h w hb ok
  have et : s.take h mem = if s.takes h mem = true then s.put h { s.at_ h with used := (s.at_ h).used + mem } else s := rfl
  cases e : s.up h
  · rw [e] at hu
    rw [if_neg (by unfold Hosts.takes; rw [e]; simp)] at et
    rw [et]
    clear e et hb
    go_enter Tryz.func111, Tryz.ntmps111
    go_wp2_with (go_at_call 73; refine hu.mono ?_; rintro e w1 ⟨rfl, n1, rfl⟩)
    go_ret
    exact ⟨_, HWrote.mk rfl (H.out.drewN _) rfl (only_drewN (only_refl _ _) _)⟩
  · rw [e] at hu
    obtain ⟨h0, h1, eth⟩ := up_lt e
    obtain ⟨n, rfl⟩ : ∃ n : Nat, h = n := ⟨h.toNat, by omega⟩
    have hn : n < 32 := by omega
    have eq : s.takes n mem = (decide (0 ≤ mem) && decide (mem ≤ s.free n)) := by unfold Hosts.takes; rw [e]; rfl
    rw [eq] at et
    have ef : s.free n = (s.getD n Mach.none).size - (s.getD n Mach.none).used := by unfold Hosts.free; rw [if_pos eth]; rfl
    have c3 : w.cell? ⟨p, n * 4 + 3, none⟩ = some (.int .i64 (s.getD n Mach.none).used) := h_cell (k := n) (r := 3) hb ok (by omega) (by omega)
    have f3 := hb.frozen (n * 4 + 3)
    obtain ⟨u0, u1, u2⟩ := h_ok ok (k := n) (by omega)
    have hfr : ∀ k : Nat, Calls Tryz.prog 107 #[.pointer (some ⟨p, 0, none⟩), .int .i64 (n : Int)] (w.drewN k) (RetV (.int .i64 (s.free n)) (w.drewN k)) := fun k => hfree_any p s n (w.drewN k) (H.out.drewN k) ok
    have hset : ∀ W v, HostsAt W p s → HostsAt (W.setCell ⟨p, n * 4 + 3, none⟩ (.int .i64 v)) p (s.set n { s.getD n Mach.none with used := v }) := fun W v hW => h_set (k := n) (r := 3) hW ok hn (by omega) rfl
    have HS := Lib.hid hset
    have eat : s.at_ (n : Int) = s.getD n Mach.none := rfl
    have ept : ∀ y, s.put (n : Int) y = s.set n y := fun y => rfl
    rw [eat, ept] at et
    obtain ⟨x, hx⟩ : ∃ x, x = s.getD n Mach.none := ⟨_, rfl⟩
    rw [← hx] at c3 u0 u1 u2 et ef HS
    obtain ⟨xt, xd, xs, xu⟩ := x
    simp only at c3 u0 u1 u2 et ef
    obtain ⟨F, hF⟩ : ∃ F, F = s.free (n : Int) := ⟨_, rfl⟩
    rw [← hF] at et ef hfr
    obtain ⟨X, hX⟩ : ∃ X, X = s.take (n : Int) mem := ⟨_, rfl⟩
    rw [← hX] at et ⊢
    have ET := Lib.hid et
    have HX := Lib.hid hx
    have EF := Lib.hid ef
    have ff0 : F ≤ 4096 := by omega
    have ff1 : F ≤ 4096 - xu := by omega
    clear hX hF hx eat ept et ef hset eq e eth hb
    by_cases m0 : mem < 0
    · have M0 := Lib.hid m0
      go_enter Tryz.func111, Tryz.ntmps111
      go_wp2_with (go_at_call 73; refine hu.mono ?_; rintro e w1 ⟨rfl, n1, rfl⟩)
      go_ret
      exact ⟨_, HWrote.mk rfl (H.out.drewN _) (by rw [ET.out, if_neg (by simp; intro h; have := M0.out; omega)]) (only_drewN (only_refl _ _) _)⟩
    · by_cases m1 : F < mem
      · have b1 : decide (F < mem) = true := by simpa using m1
        have M1 := Lib.hid m1
        clear m1
        go_enter Tryz.func111, Tryz.ntmps111
        go_wp2_with (first
          | (go_at_call 73; refine hu.mono ?_; rintro e w1 ⟨rfl, n1, rfl⟩)
          | (go_at_call 107; refine (hfr _).mono ?_; rintro e w2 ⟨rfl, n2, rfl⟩))
        go_ret
        exact ⟨_, HWrote.mk rfl (H.out.drewN _) (by rw [ET.out, if_neg (by simp; intro h; have := M1.out; omega)]) (only_drewN (only_refl _ _) _)⟩
      · have b1 : decide (F < mem) = false := by simpa using m1
        have M1 := Lib.hid m1
        have mm : mem ≤ 4096 := by omega
        have mm2 : xu + mem ≤ 4096 := by omega
        clear m1
        go_enter Tryz.func111, Tryz.ntmps111
        go_wp2_with (first
          | (go_at_call 73; refine hu.mono ?_; rintro e w1 ⟨rfl, n1, rfl⟩)
          | (go_at_call 107; refine (hfr _).mono ?_; rintro e w2 ⟨rfl, n2, rfl⟩))
        go_region
        go_wp2
        go_ret
        exact ⟨_, HWrote.mk rfl (HS.out _ (xu + mem) (H.out.drewN _)) (by rw [ET.out, if_pos (by have := M1.out; simp; omega)]) (only_at (only_drewN (only_refl _ _) _) _ _)⟩
set_option maxRecDepth 100000 in
set_option maxHeartbeats 8000000 in
theorem hgive_any (p : Nat) (s : Hosts) (h mem : Int) (w : World) (hb : HostsAt w p s) (ok : s.Ok) : Calls Tryz.prog 98 #[.pointer (some ⟨p, 0, none⟩), .int .i64 h, .int .i64 mem] w (fun e w' => ∃ v, HWrote p (s.give h mem) v w e w') := by
  have H := Lib.hid hb
  have hu := hthere_any p s h w hb ok
  have et : s.give h mem = if s.gives h mem = true then Hosts.sweep (s.put h { s.at_ h with used := (s.at_ h).used - mem }) h else s := rfl
  cases e : s.there h
  · rw [e] at hu
    rw [if_neg (by unfold Hosts.gives; rw [e]; simp)] at et
    rw [et]
    clear e et hb
    go_enter Tryz.func98, Tryz.ntmps98
    go_wp2_with (go_at_call 93; refine hu.mono ?_; rintro e w1 ⟨rfl, n1, rfl⟩)
    go_ret
    exact ⟨_, HWrote.mk rfl (H.out.drewN _) rfl (only_drewN (only_refl _ _) _)⟩
  · rw [e] at hu
    obtain ⟨h0, h1⟩ := there_lt e
    obtain ⟨n, rfl⟩ : ∃ n : Nat, h = n := ⟨h.toNat, by omega⟩
    have hn : n < 32 := by omega
    have eq : s.gives n mem = (decide (0 ≤ mem) && decide (mem ≤ (s.at_ n).used)) := by unfold Hosts.gives; rw [e]; rfl
    rw [eq] at et
    have c3 : w.cell? ⟨p, n * 4 + 3, none⟩ = some (.int .i64 (s.getD n Mach.none).used) := h_cell (k := n) (r := 3) hb ok (by omega) (by omega)
    have f3 := hb.frozen (n * 4 + 3)
    obtain ⟨u0, u1, u2⟩ := h_ok ok (k := n) (by omega)
    have hset : ∀ W v, HostsAt W p s → HostsAt (W.setCell ⟨p, n * 4 + 3, none⟩ (.int .i64 v)) p (s.set n { s.getD n Mach.none with used := v }) := fun W v hW => h_set (k := n) (r := 3) hW ok hn (by omega) rfl
    have HS := Lib.hid hset
    have eat : s.at_ (n : Int) = s.getD n Mach.none := rfl
    have ept : ∀ y, s.put (n : Int) y = s.set n y := fun y => rfl
    rw [eat, ept] at et
    obtain ⟨x, hx⟩ : ∃ x, x = s.getD n Mach.none := ⟨_, rfl⟩
    rw [← hx] at c3 u0 u1 u2 et HS
    obtain ⟨xt, xd, xs, xu⟩ := x
    simp only at c3 u0 u1 u2 et
    obtain ⟨X, hX⟩ : ∃ X, X = s.give (n : Int) mem := ⟨_, rfl⟩
    rw [← hX] at et ⊢
    have ET := Lib.hid et
    have OK := Lib.hid ok
    clear hX hx eat ept et hset eq e hb
    by_cases m0 : mem < 0
    · have M0 := Lib.hid m0
      go_enter Tryz.func98, Tryz.ntmps98
      go_wp2_with (go_at_call 93; refine hu.mono ?_; rintro e w1 ⟨rfl, n1, rfl⟩)
      go_ret
      exact ⟨_, HWrote.mk rfl (H.out.drewN _) (by rw [ET.out, if_neg (by simp; intro h; have := M0.out; omega)]) (only_drewN (only_refl _ _) _)⟩
    · by_cases m1 : xu < mem
      · have b1 : decide (xu < mem) = true := by simpa using m1
        have M1 := Lib.hid m1
        clear m1
        go_enter Tryz.func98, Tryz.ntmps98
        go_wp2_with (go_at_call 93; refine hu.mono ?_; rintro e w1 ⟨rfl, n1, rfl⟩)
        go_ret
        exact ⟨_, HWrote.mk rfl (H.out.drewN _) (by rw [ET.out, if_neg (by simp; intro h; have := M1.out; omega)]) (only_drewN (only_refl _ _) _)⟩
      · have b1 : decide (xu < mem) = false := by simpa using m1
        have M1 := Lib.hid m1
        have mm : mem ≤ 4096 := by omega
        have mm2 : 0 ≤ xu - mem := by omega
        have hsw : ∀ W, HostsAt W p (s.set n ⟨xt, xd, xs, xu - mem⟩) → Calls Tryz.prog 94 #[.pointer (some ⟨p, 0, none⟩), .int .i64 (n : Int)] W (HWrote p (Hosts.sweep (s.set n ⟨xt, xd, xs, xu - mem⟩) n) (.tuple #[]) W) := fun W hW => hsweep_any p n _ W hW (hok_set OK.out n (by simp only; omega)) hn
        have HSW := Lib.hid hsw
        clear m1 hsw
        go_enter Tryz.func98, Tryz.ntmps98
        go_wp2_with (go_at_call 93; refine hu.mono ?_; rintro e w1 ⟨rfl, n1, rfl⟩)
        go_region
        go_wp2_with (go_at_call 94; refine (HSW.out _ (HS.out _ (xu - mem) (H.out.drewN _))).mono ?_; rintro e w2 ⟨rfl, hw2, hg2⟩)
        go_ret
        exact ⟨_, HWrote.mk rfl hw2 (by rw [ET.out, if_pos (by have := M1.out; simp; omega)]) (only_trans (only_at (only_drewN (only_refl _ _) _) _ _) hg2)⟩
theorem fit_bd (s : Hosts) (mem : Int) : ∀ k : Nat, -1 ≤ s.fitTo mem k ∧ s.fitTo mem k < k
  | 0 => by simp [Hosts.fitTo]
  | k + 1 => by
    have := fit_bd s mem k
    unfold Hosts.fitTo Hosts.better
    split <;> omega
theorem free_bd {s : Hosts} (ok : s.Ok) (h : Int) : 0 ≤ s.free h ∧ s.free h ≤ 4096 := by
  unfold Hosts.free
  split
  · next e =>
    obtain ⟨h0, h1⟩ := there_lt e
    have := h_ok ok (k := h.toNat) (by omega)
    unfold Hosts.at_
    omega
  · omega
/-- Fit's answer. -/
def fitVal (x : Int) : Value := .tuple #[.int .i64 (max x 0), .bool (decide (0 ≤ x))]
set_option maxRecDepth 100000 in
set_option maxHeartbeats 8000000 in
theorem hfit_any (p : Nat) (s : Hosts) (mem : Int) (w : World) (hb : HostsAt w p s) (ok : s.Ok) : Calls Tryz.prog 85 #[.pointer (some ⟨p, 0, none⟩), .int .i64 mem] w (RetV (fitVal (s.fit mem)) w) := by
  have hup : ∀ (h : Int) (n : Nat), Calls Tryz.prog 73 #[.pointer (some ⟨p, 0, none⟩), .int .i64 h] (w.drewN n) (RetV (.bool (s.up h)) (w.drewN n)) := fun h n => hup_any p s h _ (hb.drewN n) ok
  have hfr : ∀ (h : Int) (n : Nat), Calls Tryz.prog 107 #[.pointer (some ⟨p, 0, none⟩), .int .i64 h] (w.drewN n) (RetV (.int .i64 (s.free h)) (w.drewN n)) := fun h n => hfree_any p s h _ (hb.drewN n) ok
  have HUP := Lib.hid hup
  have HFR := Lib.hid hfr
  have HO := Lib.hid ok
  have e0 : s.fit mem = s.fitTo mem 32 := rfl
  rw [e0]
  clear hup hfr ok hb e0
  go_enter Tryz.func85, Tryz.ntmps85
  go_wp2_with (fail)
  go_loopw [6, 8] (fun bv iv wr => ∃ k : Nat, k ≤ 32 ∧ iv = .int .i64 k ∧ bv = .int .i64 (s.fitTo mem k) ∧ ∃ n, wr = w.drewN n) (fun _ iv _ => 32 - (intOf iv).toNat)
  case atStart => exact ⟨0, by omega, rfl, rfl, 0, rfl⟩
  case round =>
    obtain ⟨k, hk, rfl, rfl, n, rfl⟩ := hrel
    obtain ⟨b0, b1⟩ := fit_bd s mem k
    by_cases hlt : k < 32
    · have en : s.fitTo mem (k + 1) = if s.up k = true ∧ 0 ≤ mem ∧ mem ≤ s.free k ∧ (s.fitTo mem k < 0 ∨ s.free k < s.free (s.fitTo mem k)) then (k : Int) else s.fitTo mem k := rfl
      obtain ⟨fk0, fk1⟩ := free_bd HO.out k
      obtain ⟨fb0, fb1⟩ := free_bd HO.out (s.fitTo mem k)
      have u1 := HUP.out k
      obtain ⟨B, hB⟩ : ∃ B, B = s.fitTo mem k := ⟨_, rfl⟩
      rw [← hB] at b0 b1 en fb0 fb1 ⊢
      obtain ⟨U, hU⟩ : ∃ U, U = s.up (k : Int) := ⟨_, rfl⟩
      rw [← hU] at en u1
      have EN := Lib.hid en
      clear hB hU en
      have key : ∀ c : Bool, (c = true ↔ (U = true ∧ 0 ≤ mem ∧ mem ≤ s.free (k : Int) ∧ (B < 0 ∨ s.free (k : Int) < s.free B))) → s.fitTo mem (k + 1) = if c = true then (k : Int) else B := fun c hc => by
        rw [EN.out]
        by_cases h : c = true
        · rw [if_pos (hc.1 h), if_pos h]
        · rw [if_neg (fun h' => h (hc.2 h')), if_neg h]
      have HK := Lib.hid key
      clear key
      cases U
      · go_wp2_with (go_at_call 73; refine (u1 _).mono ?_; rintro e w1 ⟨rfl, n1, rfl⟩)
        go_roundw
        case rel => exact ⟨k + 1, by omega, by go_num, by rw [HK.out false (by simp)]; rfl, _, rfl⟩
        case measure => simp [intOf]; omega
      · by_cases m0 : 0 ≤ mem
        · by_cases m1 : mem ≤ s.free (k : Int)
          · have bm : decide (mem ≤ s.free (k : Int)) = true := by simpa using m1
            by_cases m2 : B < 0
            · have bb : decide (B < 0) = true := by simpa using m2
              go_wp2_with (first
                | (go_at_call 73; refine (u1 _).mono ?_; rintro e w1 ⟨rfl, n1, rfl⟩)
                | (go_at_call 107; refine (HFR.out _ _).mono ?_; rintro e w2 ⟨rfl, n2, rfl⟩))
              go_roundw
              case rel => exact ⟨k + 1, by omega, by go_num, by rw [HK.out true (by simp; omega)]; rfl, _, rfl⟩
              case measure => simp [intOf]; omega
            · have bb : decide (B < 0) = false := by simpa using m2
              by_cases m3 : s.free (k : Int) < s.free B
              · have bc : decide (s.free (k : Int) < s.free B) = true := by simpa using m3
                go_wp2_with (first
                  | (go_at_call 73; refine (u1 _).mono ?_; rintro e w1 ⟨rfl, n1, rfl⟩)
                  | (go_at_call 107; refine (HFR.out _ _).mono ?_; rintro e w2 ⟨rfl, n2, rfl⟩))
                go_roundw
                case rel => exact ⟨k + 1, by omega, by go_num, by rw [HK.out true (by simp; omega)]; rfl, _, rfl⟩
                case measure => simp [intOf]; omega
              · have bc : decide (s.free (k : Int) < s.free B) = false := by simpa using m3
                go_wp2_with (first
                  | (go_at_call 73; refine (u1 _).mono ?_; rintro e w1 ⟨rfl, n1, rfl⟩)
                  | (go_at_call 107; refine (HFR.out _ _).mono ?_; rintro e w2 ⟨rfl, n2, rfl⟩))
                go_roundw
                case rel => exact ⟨k + 1, by omega, by go_num, by rw [HK.out false (by simp; omega)]; rfl, _, rfl⟩
                case measure => simp [intOf]; omega
          · have bm : decide (mem ≤ s.free (k : Int)) = false := by simpa using m1
            go_wp2_with (first
              | (go_at_call 73; refine (u1 _).mono ?_; rintro e w1 ⟨rfl, n1, rfl⟩)
              | (go_at_call 107; refine (HFR.out _ _).mono ?_; rintro e w2 ⟨rfl, n2, rfl⟩))
            go_roundw
            case rel => exact ⟨k + 1, by omega, by go_num, by rw [HK.out false (by simp; omega)]; rfl, _, rfl⟩
            case measure => simp [intOf]; omega
        · have bm : decide (0 ≤ mem) = false := by simpa using m0
          go_wp2_with (go_at_call 73; refine (u1 _).mono ?_; rintro e w1 ⟨rfl, n1, rfl⟩)
          go_roundw
          case rel => exact ⟨k + 1, by omega, by go_num, by rw [HK.out false (by simp; omega)]; rfl, _, rfl⟩
          case measure => simp [intOf]; omega
    · obtain rfl : k = 32 := by omega
      obtain ⟨B, hB⟩ : ∃ B, B = s.fitTo mem 32 := ⟨_, rfl⟩
      rw [← hB] at b0 b1 ⊢
      have HB := Lib.hid hB
      clear hB
      go_wp2
      go_ret2
      exact RetV.mk (by rw [← HB.out]; rfl) ⟨_, rfl⟩
end Go.Proofs.YtjmdgicdpggljaaGreat.GH

/- Proved: what the methods of bucket.Bucket answer, and leave in its block. -/
namespace Go.Proofs.YtjmdgicdpggljaaGreat.GH
open Go.RowKit Go.Proofs.YtjmdgicdpggljaaGreat.Histo
set_option linter.unusedVariables false

def Bkt.cells (b : Bkt) : Array Value := #[.int .i64 b.size, .int .i64 b.refill, .int .i64 b.tok]
structure Bkt.Ok (b : Bkt) : Prop where
  s : 0 ≤ b.size ∧ b.size ≤ 1000
  r : 0 ≤ b.refill ∧ b.refill ≤ 1000
  t : 0 ≤ b.tok ∧ b.tok ≤ 1000
abbrev BktAt (w : World) (p : Nat) (b : Bkt) : Prop := Blk w p 161 b.cells
theorem bound_any (n : Int) (w : World) : Calls Tryz.prog 87 #[.int .i64 n] w (RetV (.int .i64 (Bkt.bd n)) w) := by
  go_enter Tryz.func87, Tryz.ntmps87
  go_wp2
  go_ret
  exact ⟨rfl, 0, rfl⟩
set_option maxHeartbeats 4000000 in
theorem knew_any (s r : Int) (w : World) : Calls Tryz.prog 46 #[.int .i64 s, .int .i64 r] w fun e w' => ∃ W n, w' = (W : World).alloc (.cells (Bkt.new s r).cells 161) ∧ W = w.drewN n ∧ e = .returned (.pointer (some ⟨w.heap.size, 0, none⟩)) := by
  have hb := fun x n => bound_any x (w.drewN n)
  have hb0 := fun x => bound_any x w
  have HB := Lib.hid hb
  have HB0 := Lib.hid hb0
  clear hb hb0
  go_enter Tryz.func46, Tryz.ntmps46
  go_wp2_with (go_at_call 87; refine (bound_any _ _).mono ?_; rintro e w1 ⟨rfl, n1, rfl⟩)
  go_ret
  exact ⟨_, _, rfl, rfl, rfl⟩
set_option maxHeartbeats 4000000 in
theorem kset_any (p : Nat) (b : Bkt) (s r : Int) (w : World) (h : BktAt w p b) : Calls Tryz.prog 45 #[.pointer (some ⟨p, 0, none⟩), .int .i64 s, .int .i64 r] w (Wrote p 161 (b.set_ s r).cells (.tuple #[]) w) := by
  have c0 : w.cell? ⟨p, 0, none⟩ = some (.int .i64 b.size) := h.cell 0
  have c1 : w.cell? ⟨p, 1, none⟩ = some (.int .i64 b.refill) := h.cell 1
  have c2 : w.cell? ⟨p, 2, none⟩ = some (.int .i64 b.tok) := h.cell 2
  have f0 := h.frozen 0
  have f1 := h.frozen 1
  have f2 := h.frozen 2
  have H := Lib.hid h
  clear h
  go_enter Tryz.func45, Tryz.ntmps45
  go_wp2_with (go_at_call 87; refine (bound_any _ _).mono ?_; rintro e w1 ⟨rfl, n1, rfl⟩)
  go_region
  go_wp2
  go_end0
  exact Wrote.mk rfl (((((H.out.drewN _).set_ 0 _).set_ 1 _).drew).set_ 2 _) rfl (only_at (only_drew (only_at (only_at (only_drewN (only_refl _ _) _) _ _) _ _)) _ _)
theorem ktok_any (p : Nat) (b : Bkt) (w : World) (h : BktAt w p b) : Calls Tryz.prog 63 #[.pointer (some ⟨p, 0, none⟩)] w (RetV (.int .i64 b.tok) w) := by
  have c2 : w.cell? ⟨p, 2, none⟩ = some (.int .i64 b.tok) := h.cell 2
  clear h
  go_enter Tryz.func63, Tryz.ntmps63
  go_wp2
  go_ret
  exact ⟨rfl, 0, rfl⟩
set_option maxHeartbeats 4000000 in
theorem ktake_any (p : Nat) (b : Bkt) (w : World) (h : BktAt w p b) (ok : b.Ok) : Calls Tryz.prog 65 #[.pointer (some ⟨p, 0, none⟩)] w (fun e w' => ∃ v, Wrote p 161 b.take.cells v w e w') := by
  have c2 : w.cell? ⟨p, 2, none⟩ = some (.int .i64 b.tok) := h.cell 2
  have f2 := h.frozen 2
  have H := Lib.hid h
  obtain ⟨t0, t1⟩ := ok.t
  by_cases h0 : b.tok = 0
  · have e : b.take = b := by unfold Bkt.take; rw [if_pos h0]
    rw [e]
    have e0 : (b.tok == 0) = true := by simp [h0]
    clear h e h0
    go_enter Tryz.func65, Tryz.ntmps65
    go_wp2
    go_ret
    exact ⟨_, Wrote.mk rfl H.out rfl (only_refl _ _)⟩
  · have e : b.take = { b with tok := b.tok - 1 } := by unfold Bkt.take; rw [if_neg h0]
    rw [e]
    have e0 : (b.tok == 0) = false := by simpa using h0
    clear h e h0
    go_enter Tryz.func65, Tryz.ntmps65
    go_wp2
    go_ret
    exact ⟨_, Wrote.mk rfl (H.out.set_ 2 _) rfl (only_at (only_refl _ _) _ _)⟩
set_option maxHeartbeats 4000000 in
theorem ktick_any (p : Nat) (b : Bkt) (w : World) (h : BktAt w p b) (ok : b.Ok) : Calls Tryz.prog 40 #[.pointer (some ⟨p, 0, none⟩)] w (Wrote p 161 b.tick.cells (.tuple #[]) w) := by
  have c0 : w.cell? ⟨p, 0, none⟩ = some (.int .i64 b.size) := h.cell 0
  have c1 : w.cell? ⟨p, 1, none⟩ = some (.int .i64 b.refill) := h.cell 1
  have c2 : w.cell? ⟨p, 2, none⟩ = some (.int .i64 b.tok) := h.cell 2
  have f2 := h.frozen 2
  have H := Lib.hid h
  obtain ⟨t0, t1⟩ := ok.t
  obtain ⟨r0, r1⟩ := ok.r
  clear h
  go_enter Tryz.func40, Tryz.ntmps40
  go_wp2
  go_region
  go_wp2
  go_end0
  exact Wrote.mk rfl ((H.out.drew).set_ 2 _) rfl (only_at (only_drew (only_refl _ _)) _ _)
end Go.Proofs.YtjmdgicdpggljaaGreat.GH
