/- Proved: what greenhouselaw16.Right answers: the same as event.Event.Right. -/
import Derived.Test.YtopbhdpfakjkjaaEvent
import Derived.Deep.RegionHeld3
import Derived.Handy
namespace Go.Proofs.Ytopbhdpfakjkjaa.Event
open Go.RowKit Go.Proofs.Ytopbhdpfakjkjaa.Histo
set_option linter.unusedVariables false
/-- The numbers of an event in a row of their own. -/
def NumsAt (e : Ev) (L : List Nat) (ad : Option Addr) (w : World) : Prop := ∀ j o, L[j]? = some o → ∃ b, ad = some ⟨b, 0, none⟩ ∧ b < w.heap.size ∧ w.cell? ⟨b, j, none⟩ = some (.int .i64 (e.at o))
def Nums (e : Ev) (w : World) (r : Ending) (w' : World) : Prop :=
  (offs e.k = none ∧ (∃ ad, r = .returned (.tuple #[.slice ad 1 1, .bool false])) ∧ Below w.heap.size w w') ∨
  ∃ L ad, offs e.k = some L ∧ r = .returned (.tuple #[.slice ad L.length L.length, .bool true]) ∧ NumsAt e L ad w' ∧ Below w.heap.size w w'
theorem NumsAt.blk {e : Ev} {L : List Nat} {w : World} {b : Nat} {t : TypeId} {cs : Array Value} (h : Blk w b t cs) (hc : cs = (L.map fun o => Value.int .i64 (e.at o)).toArray) : NumsAt e L (some ⟨b, 0, none⟩) w := by
  intro j o hj
  subst hc
  refine ⟨b, rfl, h.lt, ?_⟩
  rw [h.cell, List.getElem?_toArray, List.getElem?_map, hj]; rfl
theorem NumsAt.below {e : Ev} {L : List Nat} {ad : Option Addr} {w w' : World} (h : NumsAt e L ad w) (hb : Below w.heap.size w w') : NumsAt e L ad w' := by
  intro j o hj
  obtain ⟨b, h1, h2, h3⟩ := h j o hj
  exact ⟨b, h1, Nat.lt_of_lt_of_le h2 hb.size, (hb.cell (p := ⟨b, j, none⟩) h2).trans h3⟩
theorem two_new (w : World) (o1 o2 : Obj) : Below w.heap.size w ((w.alloc o1).alloc o2) := by
  have h1 := (Below.refl w.heap.size w).alloc (Nat.le_refl _) o1
  exact h1.alloc h1.size o2
theorem two_blk (w : World) (o : Obj) (t : TypeId) (cs : Array Value) : Blk ((w.alloc o).alloc (.cells cs t)) (w.heap.size + 1) t cs := by
  have h := Blk.new (w.alloc o) t cs
  rwa [show (w.alloc o).heap.size = w.heap.size + 1 from Array.size_push ..] at h
set_option maxHeartbeats 4000000 in
set_option maxRecDepth 100000 in
theorem nums_any (k a1 a2 a3 a4 a5 a6 a7 a8 a9 : Int) (w : World) : Calls Try.prog 58 #[.agg (ecells k a1 a2 a3 a4 a5 a6 a7 a8 a9)] w (Nums ⟨k, a1, a2, a3, a4, a5, a6, a7, a8, a9⟩ w) := by
  by_cases h0 : k = 0
  · subst h0
    go_enter Try.func58, Try.ntmps58
    go_wp2
    go_ret2
    exact .inr ⟨_, _, rfl, rfl, (fun j o hj => by cases hj), (Below.refl _ _).alloc (Nat.le_refl _) _⟩
  by_cases h1 : k = 1
  · subst h1
    go_enter Try.func58, Try.ntmps58
    go_wp2
    go_ret2
    exact .inr ⟨_, _, rfl, rfl, NumsAt.blk (two_blk _ _ _ _) (by rfl), (two_new _ _ _)⟩
  by_cases h2 : k = 2
  · subst h2
    go_enter Try.func58, Try.ntmps58
    go_wp2
    go_ret2
    exact .inr ⟨_, _, rfl, rfl, NumsAt.blk (two_blk _ _ _ _) (by rfl), (two_new _ _ _)⟩
  by_cases h3 : k = 3
  · subst h3
    go_enter Try.func58, Try.ntmps58
    go_wp2
    go_ret2
    exact .inr ⟨_, _, rfl, rfl, NumsAt.blk (two_blk _ _ _ _) (by rfl), (two_new _ _ _)⟩
  by_cases h4 : k = 4
  · subst h4
    go_enter Try.func58, Try.ntmps58
    go_wp2
    go_region
    go_wp2
    go_ret2
    exact .inr ⟨_, _, rfl, rfl, NumsAt.blk (two_blk _ _ _ _).drew (by rfl), (two_new _ _ _).drew⟩
  by_cases h5 : k = 5
  · subst h5
    go_enter Try.func58, Try.ntmps58
    go_wp2
    go_region
    go_wp2
    go_ret2
    exact .inr ⟨_, _, rfl, rfl, NumsAt.blk (two_blk _ _ _ _).drew (by rfl), (two_new _ _ _).drew⟩
  by_cases h6 : k = 6
  · subst h6
    go_enter Try.func58, Try.ntmps58
    go_wp2
    go_region
    go_wp2
    go_ret2
    exact .inr ⟨_, _, rfl, rfl, NumsAt.blk (two_blk _ _ _ _).drew (by rfl), (two_new _ _ _).drew⟩
  by_cases h7 : k = 7
  · subst h7
    go_enter Try.func58, Try.ntmps58
    go_wp2
    go_region
    go_wp2
    go_ret2
    exact .inr ⟨_, _, rfl, rfl, NumsAt.blk (two_blk _ _ _ _).drew (by rfl), (two_new _ _ _).drew⟩
  by_cases h8 : k = 8
  · subst h8
    go_enter Try.func58, Try.ntmps58
    go_wp2
    go_region
    go_wp2
    go_ret2
    exact .inr ⟨_, _, rfl, rfl, NumsAt.blk (two_blk _ _ _ _).drew (by rfl), (two_new _ _ _).drew⟩
  by_cases h9 : k = 9
  · subst h9
    go_enter Try.func58, Try.ntmps58
    go_wp2
    go_region
    go_wp2
    go_ret2
    exact .inr ⟨_, _, rfl, rfl, NumsAt.blk (two_blk _ _ _ _).drew (by rfl), (two_new _ _ _).drew⟩
  have ho : offs k = none := by unfold offs; rw [if_neg h0, if_neg h1, if_neg h2, if_neg h3, if_neg (by omega)]
  have e0 : (k == 0) = false := beq_eq_false_iff_ne.2 h0
  have e1 : (k == 1) = false := beq_eq_false_iff_ne.2 h1
  have e2 : (k == 2) = false := beq_eq_false_iff_ne.2 h2
  have e3 : (k == 3) = false := beq_eq_false_iff_ne.2 h3
  have HO := Lib.hid ho
  clear ho
  by_cases h : k < 4
  · have d1 : decide (4 ≤ k) = false := decide_eq_false (by omega)
    clear h0 h1 h2 h3 h4 h5 h6 h7 h8 h9
    go_enter Try.func58, Try.ntmps58
    go_wp2
    go_region
    go_wp2
    go_ret2
    exact .inl ⟨HO.out, ⟨_, rfl⟩, (two_new _ _ _).drew⟩
  · have d1 : decide (4 ≤ k) = true := decide_eq_true (by omega)
    have d2 : decide (k ≤ 9) = false := decide_eq_false (by omega)
    clear h0 h1 h2 h3 h4 h5 h6 h7 h8 h9
    go_enter Try.func58, Try.ntmps58
    go_wp2
    go_region
    go_wp2
    go_ret2
    exact .inl ⟨HO.out, ⟨_, rfl⟩, (two_new _ _ _).drew⟩
theorem below_drewN' {B : Nat} {a w : World} (h : Below B a w) (n : Nat) : Below B a (w.drewN n) := ⟨h.os, h.tape, h.output, h.size, h.block⟩
theorem right_bare {e : Ev} {L : List Nat} (h : offs e.k = some L) {o : Nat} (ho : o < 10) (hn : ¬ bare e L L.length o = e.at o) : e.right = false := by
  unfold Ev.right
  rw [h]
  simp only [Bool.and_eq_false_iff]
  right
  rw [List.all_eq_false]
  refine ⟨o, List.mem_range.2 ho, ?_⟩
  unfold bare at hn
  rw [List.take_of_length_le (Nat.le_refl _)] at hn
  by_cases h1 : o = 0 ∨ o ∈ L
  · rw [if_pos h1] at hn; exact absurd rfl hn
  · rw [if_neg h1] at hn
    simp only [Bool.or_eq_true, beq_iff_eq, List.contains_iff_mem]
    rintro (h2 | h2)
    · exact h1 h2
    · exact hn h2.symm
def WithP (e : Ev) (L : List Nat) (w : World) (r : Ending) (w' : World) : Prop := r = .returned (.agg (bcells e L L.length)) ∧ Below w.heap.size w w'
theorem WithP.mk {e : Ev} {L : List Nat} {w w' : World} {cs : Array Value} (h : cs = bcells e L L.length) (hb : Below w.heap.size w w') : WithP e L w (.returned (.agg cs)) w' := by subst h; exact ⟨rfl, hb⟩
set_option maxHeartbeats 4000000 in
set_option maxRecDepth 100000 in
theorem with_any (k a1 a2 a3 a4 a5 a6 a7 a8 a9 : Int) (L : List Nat) (ad : Option Addr) (w : World) (hL : offs k = some L) (hN : NumsAt ⟨k, a1, a2, a3, a4, a5, a6, a7, a8, a9⟩ L ad w) : Calls Try.prog 59 #[.int .i64 k, .slice ad L.length L.length] w (WithP ⟨k, a1, a2, a3, a4, a5, a6, a7, a8, a9⟩ L w) := by
  by_cases h0 : k = 0
  · subst h0
    obtain rfl : L = [] := by unfold offs at hL; simp at hL; first | exact hL | exact hL.symm
    clear hN hL
    go_enter Try.func59, Try.ntmps59
    go_wp2
    go_returns
    exact WithP.mk rfl (two_new _ _ _)
  by_cases h1 : k = 1
  · subst h1
    obtain rfl : L = [1, 2, 3, 4] := by unfold offs at hL; simp at hL; first | exact hL | exact hL.symm
    obtain ⟨b, rfl, hb, c0⟩ := hN 0 1 rfl
    have n0 := World.new_ne w _ c0
    obtain ⟨b1, e1, _, c1⟩ := hN 1 2 rfl
    cases e1
    obtain ⟨b2, e2, _, c2⟩ := hN 2 3 rfl
    cases e2
    obtain ⟨b3, e3, _, c3⟩ := hN 3 4 rfl
    cases e3
    simp only [Ev.at, Ev.list] at c0 c1 c2 c3
    clear hN hL
    go_enter Try.func59, Try.ntmps59
    go_wp2
    go_returns
    exact WithP.mk rfl (two_new _ _ _)
  by_cases h2 : k = 2
  · subst h2
    obtain rfl : L = [1, 5, 6, 7, 8, 9] := by unfold offs at hL; simp at hL; first | exact hL | exact hL.symm
    obtain ⟨b, rfl, hb, c0⟩ := hN 0 1 rfl
    have n0 := World.new_ne w _ c0
    obtain ⟨b1, e1, _, c1⟩ := hN 1 5 rfl
    cases e1
    obtain ⟨b2, e2, _, c2⟩ := hN 2 6 rfl
    cases e2
    obtain ⟨b3, e3, _, c3⟩ := hN 3 7 rfl
    cases e3
    obtain ⟨b4, e4, _, c4⟩ := hN 4 8 rfl
    cases e4
    obtain ⟨b5, e5, _, c5⟩ := hN 5 9 rfl
    cases e5
    simp only [Ev.at, Ev.list] at c0 c1 c2 c3 c4 c5
    clear hN hL
    go_enter Try.func59, Try.ntmps59
    go_wp2
    go_returns
    exact WithP.mk rfl (two_new _ _ _)
  by_cases h3 : k = 3
  · subst h3
    obtain rfl : L = [1, 3] := by unfold offs at hL; simp at hL; first | exact hL | exact hL.symm
    obtain ⟨b, rfl, hb, c0⟩ := hN 0 1 rfl
    have n0 := World.new_ne w _ c0
    obtain ⟨b1, e1, _, c1⟩ := hN 1 3 rfl
    cases e1
    simp only [Ev.at, Ev.list] at c0 c1
    clear hN hL
    go_enter Try.func59, Try.ntmps59
    go_wp2
    go_returns
    exact WithP.mk rfl (two_new _ _ _)
  by_cases h4 : k = 4
  · subst h4
    obtain rfl : L = [1] := by unfold offs at hL; simp at hL; first | exact hL | exact hL.symm
    obtain ⟨b, rfl, hb, c0⟩ := hN 0 1 rfl
    have n0 := World.new_ne w _ c0
    simp only [Ev.at, Ev.list] at c0
    clear hN hL
    go_enter Try.func59, Try.ntmps59
    go_wp2
    go_returns
    exact WithP.mk rfl (two_new _ _ _)
  by_cases h5 : k = 5
  · subst h5
    obtain rfl : L = [1] := by unfold offs at hL; simp at hL; first | exact hL | exact hL.symm
    obtain ⟨b, rfl, hb, c0⟩ := hN 0 1 rfl
    have n0 := World.new_ne w _ c0
    simp only [Ev.at, Ev.list] at c0
    clear hN hL
    go_enter Try.func59, Try.ntmps59
    go_wp2
    go_returns
    exact WithP.mk rfl (two_new _ _ _)
  by_cases h6 : k = 6
  · subst h6
    obtain rfl : L = [1] := by unfold offs at hL; simp at hL; first | exact hL | exact hL.symm
    obtain ⟨b, rfl, hb, c0⟩ := hN 0 1 rfl
    have n0 := World.new_ne w _ c0
    simp only [Ev.at, Ev.list] at c0
    clear hN hL
    go_enter Try.func59, Try.ntmps59
    go_wp2
    go_returns
    exact WithP.mk rfl (two_new _ _ _)
  by_cases h7 : k = 7
  · subst h7
    obtain rfl : L = [1] := by unfold offs at hL; simp at hL; first | exact hL | exact hL.symm
    obtain ⟨b, rfl, hb, c0⟩ := hN 0 1 rfl
    have n0 := World.new_ne w _ c0
    simp only [Ev.at, Ev.list] at c0
    clear hN hL
    go_enter Try.func59, Try.ntmps59
    go_wp2
    go_returns
    exact WithP.mk rfl (two_new _ _ _)
  by_cases h8 : k = 8
  · subst h8
    obtain rfl : L = [1] := by unfold offs at hL; simp at hL; first | exact hL | exact hL.symm
    obtain ⟨b, rfl, hb, c0⟩ := hN 0 1 rfl
    have n0 := World.new_ne w _ c0
    simp only [Ev.at, Ev.list] at c0
    clear hN hL
    go_enter Try.func59, Try.ntmps59
    go_wp2
    go_returns
    exact WithP.mk rfl (two_new _ _ _)
  by_cases h9 : k = 9
  · subst h9
    obtain rfl : L = [1] := by unfold offs at hL; simp at hL; first | exact hL | exact hL.symm
    obtain ⟨b, rfl, hb, c0⟩ := hN 0 1 rfl
    have n0 := World.new_ne w _ c0
    simp only [Ev.at, Ev.list] at c0
    clear hN hL
    go_enter Try.func59, Try.ntmps59
    go_wp2
    go_returns
    exact WithP.mk rfl (two_new _ _ _)
  exfalso
  unfold offs at hL
  rw [if_neg h0, if_neg h1, if_neg h2, if_neg h3, if_neg (by omega)] at hL
  cases hL
end Go.Proofs.Ytopbhdpfakjkjaa.Event
