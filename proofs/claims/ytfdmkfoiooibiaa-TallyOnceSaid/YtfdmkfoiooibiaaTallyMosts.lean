/- Proved: the walk of the law TallyMosts: it answers true, for every list of 64-bit numbers. -/
import Derived.Test.YtfdmkfoiooibiaaTallyFns
import Derived.Deep.Draws
import Derived.Laws.Rows
namespace Go.Proofs.Ytfdmkfoiooibiaa.Tally
open Go.RowKit

/-- A block that is known whole: just these cells. -/
def Blk (w : World) (g : Nat) (t : TypeId) (cs : Array Value) : Prop := w.heap[g]? = some (.cells cs t (0, 0))
section
variable {w w' : World} {g : Nat} {t : TypeId} {cs : Array Value}
theorem Blk.lt (h : Blk w g t cs) : g < w.heap.size := by
  rcases Nat.lt_or_ge g w.heap.size with hlt | hge
  · exact hlt
  · unfold Blk at h; rw [Array.getElem?_eq_none hge] at h; cases h
theorem Blk.cell (h : Blk w g t cs) (i : Nat) : w.cell? ⟨g, i, none⟩ = cs[i]? := cell_of_row w g i cs t (0, 0) h
theorem Blk.frozen (h : Blk w g t cs) (i : Nat) : w.frozen? ⟨g, i, none⟩ = false := by
  unfold Blk at h
  simp [World.frozen?, h]
theorem Blk.new (w : World) (t : TypeId) (cs : Array Value) : Blk (w.alloc (.cells cs t)) w.heap.size t cs := heap_alloc_new w _
theorem Blk.alloc (h : Blk w g t cs) (o : Obj) : Blk (w.alloc o) g t cs := (Below.heap_alloc w o g h.lt).trans h
theorem Blk.set_ (h : Blk w g t cs) (i : Nat) (u : Value) : Blk (w.setCell ⟨g, i, none⟩ u) g t (cs.setIfInBounds i u) := by
  unfold Blk at h ⊢
  simp [World.setCell, Array.getElem?_modify, h]
theorem Blk.far (h : Blk w g t cs) {p : Addr} (hp : g ≠ p.block) (u : Value) : Blk (w.setCell p u) g t cs := (Below.heap_setCell w p u g hp).trans h
theorem Blk.below {B : Nat} (h : Blk w g t cs) (hb : Below B w w') (hg : g < B) : Blk w' g t cs := (hb.block g hg).trans h
theorem Blk.same {v : Value} (h : Blk w g t #[v]) : w.setCell ⟨g, 0, none⟩ v = w := by
  have e : (w.setCell ⟨g, 0, none⟩ v).heap = w.heap := by
    apply Array.ext_getElem?
    intro i
    unfold Blk at h
    by_cases hi : g = i
    · subst hi; simp [World.setCell, Array.getElem?_modify, h]
    · simp [World.setCell, Array.getElem?_modify, hi]
  have e2 : w.setCell ⟨g, 0, none⟩ v = { w with heap := (w.setCell ⟨g, 0, none⟩ v).heap } := rfl
  rw [e2, e]
end

theorem most_any (g t : Nat) (n x : Int) (w : World) (h : Blk w g t #[.int .i64 n]) :
    Calls Try.prog 17 #[.pointer (some ⟨g, 0, none⟩), .int .i64 x] w fun e w' => e = .returned (.int .i64 (max n x)) ∧ w' = w.setCell ⟨g, 0, none⟩ (.int .i64 (max n x)) := by
  by_cases hl : n < x
  · rw [show max n x = x by omega]
    exact most_less g 0 n x w (by rw [h.cell]; rfl) (h.frozen 0) hl
  · rw [show max n x = n by omega, h.same]
    exact most_more g 0 n x w (by rw [h.cell]; rfl) hl

theorem put_blk (g t : Nat) (n x : Int) (w : World) (h : Blk w g t #[.int .i64 n]) (hn : In n) (hx : In x) :
    Calls Try.prog 16 #[.pointer (some ⟨g, 0, none⟩), .int .i64 x] w fun e w' => e = .returned (.int .i64 (sat (n + x))) ∧ w' = w.setCell ⟨g, 0, none⟩ (.int .i64 (sat (n + x))) :=
  put_any g 0 n x w (by rw [h.cell]; rfl) (h.frozen 0) hn hx
theorem load_blk (g t : Nat) (n : Int) (w : World) (h : Blk w g t #[.int .i64 n]) : Calls Try.prog 15 #[.pointer (some ⟨g, 0, none⟩)] w (RetI n w) :=
  load_any g 0 n w (by rw [h.cell]; rfl)
theorem full_blk (g t : Nat) (n : Int) (w : World) (h : Blk w g t #[.int .i64 n]) : Calls Try.prog 19 #[.pointer (some ⟨g, 0, none⟩)] w fun e w' => e = .returned (.bool (n == 9223372036854775807)) ∧ w = w' :=
  full_any g 0 n w (by rw [h.cell]; rfl)

def RetB (w : World) (e : Ending) (w' : World) : Prop := e = .returned (.bool true) ∧ Below w.heap.size w w'
theorem RetB.mk {b : Bool} {w w' : World} (h : b = true) (hw : Below w.heap.size w w') : RetB w (.returned (.bool b)) w' := by subst h; exact ⟨rfl, hw⟩

set_option maxHeartbeats 400000 in
theorem head_any (w : World) : Calls Try.prog 14 #[] w (RetB w) := by
  obtain ⟨w1, hw1⟩ : ∃ w1, w1 = w.alloc (.cells #[.int .i64 0] 31) := ⟨_, rfl⟩
  have b1 : Blk w1 w.heap.size 31 #[.int .i64 0] := by rw [hw1]; exact Blk.new w 31 _
  have c1 := put_blk _ _ 0 3 w1 b1 ⟨by decide, by decide⟩ ⟨by decide, by decide⟩
  rw [show sat (0 + 3) = 3 by decide] at c1
  have b2 := b1.set_ 0 (.int .i64 3)
  have c2 := put_blk _ _ 3 (-5) _ b2 ⟨by decide, by decide⟩ ⟨by decide, by decide⟩
  rw [show sat (3 + -5) = -2 by decide] at c2
  have b3 := b2.set_ 0 (.int .i64 (-2))
  have c3 := load_blk _ _ (-2) _ b3
  have hB : Below w.heap.size w ((w1.setCell ⟨w.heap.size, 0, none⟩ (.int .i64 3)).setCell ⟨w.heap.size, 0, none⟩ (.int .i64 (-2))) := by
    rw [hw1]; exact (((Below.refl _ _).alloc (Nat.le_refl _) _).setCell (by simp) _).setCell (by simp) _
  have C1 := Lib.hid c1
  have C2 := Lib.hid c2
  have C3 := Lib.hid c3
  have HB := Lib.hid hB
  have HW := Lib.hid hw1
  clear c1 c2 c3 hB b1 b2 b3
  go_enter Try.func14, Try.ntmps14
  go_wp2_with fail
  rw [← HW.out]
  clear hw1
  refine (C1.out).mono ?_
  rintro e w' ⟨rfl, rfl⟩
  go_wp2_with fail
  refine (C2.out).mono ?_
  rintro e w' ⟨rfl, rfl⟩
  go_wp2_with fail
  refine (C3.out).mono ?_
  rintro e w' ⟨rfl, rfl⟩
  go_wp2
  go_ret
  exact RetB.mk rfl HB.out

end Go.Proofs.Ytfdmkfoiooibiaa.Tally
