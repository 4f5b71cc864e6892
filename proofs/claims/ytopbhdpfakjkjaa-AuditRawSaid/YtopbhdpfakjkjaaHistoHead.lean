/- Proved: the head of the laws of package histo answers true; a cut as one number. -/
import Derived.Test.YtopbhdpfakjkjaaHistoRead
namespace Go.Proofs.Ytopbhdpfakjkjaa.Histo
open Go.RowKit
set_option linter.unusedVariables false

theorem First.eq {s : S} {p : Int} {i j : Nat} (h : First s p i) (k : First s p j) : i = j := by
  rcases Nat.lt_trichotomy i j with h1 | h1 | h1
  · exact absurd h.yes (k.no i h1)
  · exact h1
  · exact absurd k.yes (h.no j h1)
/-- A percentage within its bounds. -/
def pc (p : Int) : Int := max 0 (min p 100)
/-- The cut, as a number: 0 where there is none. -/
noncomputable def S.cut (s : S) (p : Int) : Nat := open Classical in if h : ∃ i, First s (pc p) i then Classical.choose h else 0
theorem cut_of {s : S} {p : Int} {i : Nat} (h : First s (pc p) i) : s.cut p = i := by
  unfold S.cut
  rw [dif_pos ⟨i, h⟩]
  exact (Classical.choose_spec (p := fun i => First s (pc p) i) ⟨i, h⟩).eq h
theorem cut_zero {s : S} (ok : Ok s) (p : Int) (ha : s.a = 0) : s.cut p = 0 := by
  unfold S.cut
  split
  · next h =>
    obtain ⟨i, hi⟩ := h
    have h1 := hi.yes.1
    have h2 := (ps_mono ok (i + 1)).2
    omega
  · rfl
theorem cut_first {s : S} (ok : Ok s) (p : Int) (ha : 0 < s.a) : First s (pc p) (s.cut p) := by
  have key : ∃ i, First s (pc p) i := by
    have h0 : Stop s (pc p) 239 := by
      refine ⟨?_, ?_⟩
      · rw [ps_all ok]; exact ha
      · rw [ps_all ok, Int.mul_comm s.a 100]; exact Int.mul_le_mul_of_nonneg_right (by unfold pc; omega) (by omega)
    have least : ∀ n, n ≤ 240 → (∀ j, j < n → ¬ Stop s (pc p) j) ∨ ∃ i, i < n ∧ First s (pc p) i := by
      intro n
      induction n with
      | zero => intro _; exact .inl (fun j hj => by omega)
      | succ n ih =>
        intro hn
        rcases ih (by omega) with h | ⟨i, hi, h⟩
        · by_cases hs : Stop s (pc p) n
          · exact .inr ⟨n, by omega, by omega, hs, h⟩
          · refine .inl (fun j hj => ?_)
            by_cases e : j = n
            · subst e; exact hs
            · exact h j (by omega)
        · exact .inr ⟨i, by omega, h⟩
    rcases least 240 (by omega) with h | ⟨i, _, h⟩
    · exact absurd h0 (h 239 (by omega))
    · exact ⟨i, h⟩
  obtain ⟨i, h⟩ := key
  rw [cut_of h]
  exact h

def RetC (i : Int) (b : Bool) (w : World) (e : Ending) (w' : World) : Prop := e = .returned (.tuple #[.int .i64 i, .bool b]) ∧ ∃ n, w' = w.drewN n
theorem cut_any (g : Nat) (s : S) (p : Int) (w : World) (h : Blk w g 62 s.cells) (ok : Ok s) : Calls Try.prog 32 #[.pointer (some ⟨g, 0, none⟩), .int .i64 p] w (RetC (s.cut p : Int) (decide (0 < s.a)) w) := by
  by_cases ha : 0 < s.a
  · refine (cut_some g s p (pc p) w h ok ha rfl).mono ?_
    rintro e w' ⟨i, hi, he, hw⟩
    rw [cut_of hi, decide_eq_true ha]
    exact ⟨he, hw⟩
  · have h0 : s.a = 0 := by have := ok.a0; omega
    rw [cut_zero ok p h0, decide_eq_false ha]
    exact cut_none g s p w h ok h0

/-- A histogram in a block of the call's own. -/
structure HW (w : World) (g : Nat) (s : S) (wr : World) : Prop where
  b : Blk wr g 62 s.cells
  below : Below w.heap.size w wr
  new : w.heap.size ≤ g
theorem HW.adds {w wr w' : World} {g : Nat} {s s' : S} {e : Ending} (h : HW w g s wr) (a : Adds wr g s' e w') : HW w g s' w' :=
  ⟨a.2.1, below_only h.below a.2.2 h.new h.below.size, h.new⟩
theorem HW.drewN {w wr : World} {g : Nat} {s : S} (h : HW w g s wr) (n : Nat) : HW w g s (wr.drewN n) :=
  ⟨h.b, ⟨h.below.os, h.below.tape, h.below.output, h.below.size, h.below.block⟩, h.new⟩
theorem HW.first (w w1 : World) (hb : Below w.heap.size w w1) : HW w w1.heap.size S.empty (w1.alloc (.cells (hc (List.replicate 240 0) 0 0) 62)) :=
  ⟨Blk.new w1 62 _, hb.alloc hb.size _, hb.size⟩
/-- Another histogram's block keeps this one. -/
theorem HW.other {w wr w' : World} {g g2 : Nat} {s s2 s' : S} {e : Ending} (h : HW w g s wr) (h2 : HW w g2 s2 wr) (a : Adds wr g2 s' e w') (hne : g ≠ g2) : HW w g s w' :=
  ⟨h.b.grown a.2.2 (fun e => hne (by injection e)), (h2.adds a).below, h.new⟩

def Yes (w : World) (e : Ending) (w' : World) : Prop := e = .returned (.bool true) ∧ Below w.heap.size w w'
theorem Yes.mk {b : Bool} {w w' : World} (h : b = true) (hw : Below w.heap.size w w') : Yes w (.returned (.bool b)) w' := by subst h; exact ⟨rfl, hw⟩

instance (s : S) (p : Int) (i : Nat) : Decidable (Stop s p i) := by unfold Stop; infer_instance
def h3 : S := ((S.empty.add 3).add 3).add 9
theorem h3_a : h3.a = 3 := by decide +kernel
theorem h3_50 : h3.cut 50 = 3 := cut_of ⟨by omega, by decide +kernel, by decide +kernel⟩
theorem h3_99 : h3.cut 99 = 9 := cut_of ⟨by omega, by decide +kernel, by decide +kernel⟩

end Go.Proofs.Ytopbhdpfakjkjaa.Histo
