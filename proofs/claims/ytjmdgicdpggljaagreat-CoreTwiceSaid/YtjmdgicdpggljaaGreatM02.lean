/- Proved: what the methods of histo.Histo answer and leave: counts in one block of memory. The condition: the block holds counts that are no less than nought, fewer than 4096 together. -/
import Derived.Test.YtjmdgicdpggljaaGreatProg
import Derived.WalkKit
import Derived.WalkLawsBesides
import Derived.Lib.Hide
import Derived.IntWalk
import Derived.Deep.Draws
import Derived.Deep.OwnRows
import Derived.Laws.AppendOwn
import Derived.Laws.Rows
import Derived.RegionTactic
import Derived.ChangeAlike
import Derived.Deep.QuietTactic
import Derived.BigQuiet
import Derived.Lib.MinMax
import Derived.ProofKit
import Derived.OpenShut
import Derived.Laws.CopyOwn
set_option linter.all false
namespace Go.Proofs.YtjmdgicdpggljaaGreat.Histo
open Go.RowKit
set_option linter.unusedVariables false

def Blk (w : World) (g : Nat) (t : TypeId) (cs : Array Value) : Prop := w.heap[g]? = some (.cells cs t (0, 0))
section
variable {w w' : World} {g : Nat} {t : TypeId} {cs : Array Value}
theorem Blk.lt (h : Blk w g t cs) : g < w.heap.size := by
  rcases Nat.lt_or_ge g w.heap.size with hlt | hge
  · exact hlt
  · unfold Blk at h; rw [Array.getElem?_eq_none hge] at h; cases h
theorem Blk.cell (h : Blk w g t cs) (i : Nat) : w.cell? ⟨g, i, none⟩ = cs[i]? := cell_of_row w g i cs t (0, 0) h
theorem Blk.frozen (h : Blk w g t cs) (i : Nat) : w.frozen? ⟨g, i, none⟩ = false := by
  unfold Blk at h
  simp [World.frozen?, h]
theorem Blk.new (w : World) (t : TypeId) (cs : Array Value) : Blk (w.alloc (.cells cs t)) w.heap.size t cs := heap_alloc_new w _
theorem Blk.drew (h : Blk w g t cs) : Blk w.drew g t cs := h
theorem Blk.drewN (h : Blk w g t cs) (n : Nat) : Blk (w.drewN n) g t cs := h
theorem Blk.alloc (h : Blk w g t cs) (o : Obj) : Blk (w.alloc o) g t cs := (Below.heap_alloc w o g h.lt).trans h
theorem Blk.set_ (h : Blk w g t cs) (i : Nat) (u : Value) : Blk (w.setCell ⟨g, i, none⟩ u) g t (cs.setIfInBounds i u) := by
  unfold Blk at h ⊢
  simp [World.setCell, Array.getElem?_modify, h]
theorem Blk.far (h : Blk w g t cs) {p : Addr} (hp : g ≠ p.block) (u : Value) : Blk (w.setCell p u) g t cs := (Below.heap_setCell w p u g hp).trans h
theorem Blk.below {B : Nat} (h : Blk w g t cs) (hb : Below B w w') (hg : g < B) : Blk w' g t cs := (hb.block g hg).trans h
theorem Blk.grown {row : Option Nat} (h : Blk w g t cs) (hb : w.grownBy w' row) (hg : some g ≠ row) : Blk w' g t cs := (hb.block g h.lt hg).trans h
end
theorem only_refl (a : World) (row : Option Nat) : a.grownBy a row := ⟨rfl, rfl, rfl, Nat.le_refl _, fun _ _ _ => rfl⟩
theorem only_drewN {a w : World} {row : Option Nat} (h : a.grownBy w row) (n : Nat) : a.grownBy (w.drewN n) row := ⟨h.os, h.tape, h.output, h.size, h.block⟩
theorem only_drew {a w : World} {row : Option Nat} (h : a.grownBy w row) : a.grownBy w.drew row := ⟨h.os, h.tape, h.output, h.size, h.block⟩
theorem only_alloc {a w : World} {row : Option Nat} (h : a.grownBy w row) (o : Obj) : a.grownBy (w.alloc o) row :=
  ⟨h.os, h.tape, h.output, Nat.le_trans h.size (by simp), fun i hi hne => (Below.heap_alloc w o i (Nat.lt_of_lt_of_le hi h.size)).trans (h.block i hi hne)⟩
theorem only_setCell {a w : World} {g : Nat} (h : a.grownBy w (some g)) {p : Addr} (hp : p.block = g ∨ a.heap.size ≤ p.block) (u : Value) : a.grownBy (w.setCell p u) (some g) :=
  ⟨h.os, h.tape, h.output, by simpa [World.setCell] using h.size, fun i hi hne => (Below.heap_setCell w p u i (by
    rintro rfl
    rcases hp with hp | hp
    · exact hne (by rw [hp])
    · omega)).trans (h.block i hi hne)⟩
theorem only_trans {a b c : World} {row : Option Nat} (h : a.grownBy b row) (k : b.grownBy c row) : a.grownBy c row :=
  ⟨k.os.trans h.os, k.tape.trans h.tape, k.output.trans h.output, Nat.le_trans h.size k.size, fun i hi hne => (k.block i (Nat.lt_of_lt_of_le hi h.size) hne).trans (h.block i hi hne)⟩
theorem below_only {B : Nat} {a w w' : World} {g : Nat} (h : Below B a w) (k : w.grownBy w' (some g)) (hg : B ≤ g) (hB : B ≤ w.heap.size) : Below B a w' :=
  h.grown k hB (fun _ e => by injection e with e; omega)

/-- The cells of a histogram: its bins, how many are in them, how many were too long. -/
def hc (bs : List Int) (a o : Int) : Array Value := (bs.map (Value.int .i64) ++ [Value.int .i64 a, Value.int .i64 o]).toArray
theorem hc_get {bs : List Int} {a o : Int} {i : Nat} (h : i < bs.length) : (hc bs a o)[i]? = some (.int .i64 (bs.getD i 0)) := by
  unfold hc
  rw [List.getElem?_toArray, List.getElem?_append_left (by simpa using h), List.getElem?_map, List.getElem?_eq_getElem h, List.getD_eq_getElem?_getD, List.getElem?_eq_getElem h]
  rfl
theorem hc_in {bs : List Int} {a o : Int} (h : bs.length = 240) : (hc bs a o)[240]? = some (.int .i64 a) := by
  unfold hc
  rw [List.getElem?_toArray, List.getElem?_append_right (by simp [h])]
  simp [h]
theorem hc_over {bs : List Int} {a o : Int} (h : bs.length = 240) : (hc bs a o)[241]? = some (.int .i64 o) := by
  unfold hc
  rw [List.getElem?_toArray, List.getElem?_append_right (by simp [h])]
  simp [h]
theorem hc_set {bs : List Int} {a o : Int} {i : Nat} (h : i < bs.length) (x : Int) : (hc bs a o).setIfInBounds i (.int .i64 x) = hc (bs.set i x) a o := by
  unfold hc
  rw [List.setIfInBounds_toArray, List.set_append_left _ _ (by simpa using h), List.map_set]
theorem hc_set_in {bs : List Int} {a o : Int} (h : bs.length = 240) (x : Int) : (hc bs a o).setIfInBounds 240 (.int .i64 x) = hc bs x o := by
  unfold hc
  rw [List.setIfInBounds_toArray, List.set_append_right _ _ (by simp [h])]
  simp [h]
theorem hc_set_over {bs : List Int} {a o : Int} (h : bs.length = 240) (x : Int) : (hc bs a o).setIfInBounds 241 (.int .i64 x) = hc bs a x := by
  unfold hc
  rw [List.setIfInBounds_toArray, List.set_append_right _ _ (by simp [h])]
  simp [h]

def RetI (r : Int) (w : World) (e : Ending) (w' : World) : Prop := e = .returned (.int .i64 r) ∧ ∃ n, w' = w.drewN n

theorem in_any (g : Nat) (bs : List Int) (a o : Int) (w : World) (h : Blk w g 170 (hc bs a o)) (hl : bs.length = 240) : Calls Tryz.prog 131 #[.pointer (some ⟨g, 0, none⟩)] w (RetI a w) := by
  have c : w.cell? ⟨g, 240, none⟩ = some (.int .i64 a) := by rw [h.cell]; exact hc_in hl
  clear h
  go_enter Tryz.func131, Tryz.ntmps131
  go_wp2
  go_ret
  exact ⟨rfl, 0, rfl⟩
theorem over_any (g : Nat) (bs : List Int) (a o : Int) (w : World) (h : Blk w g 170 (hc bs a o)) (hl : bs.length = 240) : Calls Tryz.prog 132 #[.pointer (some ⟨g, 0, none⟩)] w (RetI o w) := by
  have c : w.cell? ⟨g, 241, none⟩ = some (.int .i64 o) := by rw [h.cell]; exact hc_over hl
  clear h
  go_enter Tryz.func132, Tryz.ntmps132
  go_wp2
  go_ret
  exact ⟨rfl, 0, rfl⟩

theorem new_any (w : World) : Calls Tryz.prog 48 #[] w fun e w' => e = .returned (.pointer (some ⟨w.heap.size, 0, none⟩)) ∧ w' = w.alloc (.cells (hc (List.replicate 240 0) 0 0) 170) := by
  go_enter Tryz.func48, Tryz.ntmps48
  go_wp2
  go_ret
  exact ⟨rfl, rfl⟩

end Go.Proofs.YtjmdgicdpggljaaGreat.Histo

/- Proved: what (*histo.Histo).Add and halve leave. -/
namespace Go.Proofs.YtjmdgicdpggljaaGreat.Histo
open Go.RowKit
set_option linter.unusedVariables false

/-- The first k bins halved. -/
def halfTo (bs : List Int) (k : Nat) : List Int := (bs.take k).map (· / 2) ++ bs.drop k
theorem halfTo_len (bs : List Int) (k : Nat) : (halfTo bs k).length = bs.length := by unfold halfTo; simp; omega
theorem halfTo_get (bs : List Int) (k i : Nat) (h : k ≤ i) : (halfTo bs k).getD i 0 = bs.getD i 0 := by
  unfold halfTo
  rw [List.getD_eq_getElem?_getD, List.getD_eq_getElem?_getD]
  by_cases hk : k ≤ bs.length
  · rw [List.getElem?_append_right (by simp; omega)]
    simp only [List.length_map, List.length_take, Nat.min_eq_left hk, List.getElem?_drop]
    rw [show k + (i - k) = i by omega]
  · rw [List.getElem?_append_right (by simp; omega)]
    rw [List.drop_of_length_le (by omega), List.getElem?_eq_none (show bs.length ≤ i by omega)]
    simp
theorem halfTo_next (bs : List Int) (k : Nat) (h : k < bs.length) : (halfTo bs k).set k (bs.getD k 0 / 2) = halfTo bs (k + 1) := by
  unfold halfTo
  rw [List.set_append_right _ _ (by simp; omega)]
  simp only [List.length_map, List.length_take, Nat.min_eq_left (Nat.le_of_lt h), Nat.sub_self]
  rw [List.drop_eq_getElem_cons h, List.set_cons_zero, List.take_succ_eq_append_getElem h, List.map_append, List.append_assoc]
  rw [List.getD_eq_getElem?_getD, List.getElem?_eq_getElem h]
  rfl
def hsum (bs : List Int) (k : Nat) : Int := ((bs.take k).map (· / 2)).sum
theorem hsum_next (bs : List Int) (k : Nat) (h : k < bs.length) : hsum bs (k + 1) = hsum bs k + bs.getD k 0 / 2 := by
  unfold hsum
  rw [List.take_succ_eq_append_getElem h, List.map_append, List.sum_append, List.getD_eq_getElem?_getD, List.getElem?_eq_getElem h]
  simp
theorem getD_mem {bs : List Int} {k : Nat} (h : k < bs.length) : bs.getD k 0 ∈ bs := by
  rw [List.getD_eq_getElem?_getD, List.getElem?_eq_getElem h]; exact List.getElem_mem h
theorem hsum_bd (bs : List Int) (hb : ∀ x ∈ bs, 0 ≤ x ∧ x ≤ 4096) : ∀ k, k ≤ bs.length → 0 ≤ hsum bs k ∧ hsum bs k ≤ 2048 * k
  | 0, _ => by simp [hsum]
  | k + 1, h => by
    have h1 := hsum_bd bs hb k (by omega)
    have h2 := hb _ (getD_mem (show k < bs.length by omega))
    rw [hsum_next bs k (by omega)]
    omega

/-- What the loop of halve keeps. -/
structure HI (w : World) (g : Nat) (bs : List Int) (o : Int) (k : Nat) (wr : World) : Prop where
  b : Blk wr g 170 (hc (halfTo bs k) (hsum bs k) o)
  only : w.grownBy wr (some g)

theorem eight (x : Int) (h : 0 ≤ x) : x.tdiv 2 = x / 2 := Int.tdiv_eq_ediv_of_nonneg h

set_option maxHeartbeats 2000000 in
set_option maxRecDepth 100000 in
theorem halve_any (g : Nat) (bs : List Int) (a o : Int) (w : World) (h : Blk w g 170 (hc bs a o)) (hl : bs.length = 240) (hb : ∀ x ∈ bs, 0 ≤ x ∧ x ≤ 4096) (ho : 0 ≤ o) (ho' : o ≤ 100000) :
    Calls Tryz.prog 126 #[.pointer (some ⟨g, 0, none⟩)] w fun e w' => e = .returned (.tuple #[]) ∧ HI w g bs (o / 2) 240 w' := by
  have c0 : w.cell? ⟨g, 240, none⟩ = some (.int .i64 a) := by rw [h.cell]; exact hc_in hl
  have f0 := h.frozen 240
  have hst : HI w g bs o 0 (w.setCell ⟨g, 240, none⟩ (.int .i64 0)) := by
    refine ⟨?_, only_setCell (only_refl w _) (.inl rfl) _⟩
    have := h.set_ 240 (.int .i64 0)
    rw [hc_set_in hl] at this
    exact this
  have HS := Lib.hid hst
  have HB := Lib.hid hb
  have HL := Lib.hid hl
  clear hst hb h hl
  go_enter Tryz.func126, Tryz.ntmps126
  go_wp2
  go_loopw [6] (fun i wr => ∃ k : Nat, k ≤ 240 ∧ i = .int .i64 k ∧ HI w g bs o k wr) (fun i _ => 240 - (intOf i).toNat)
  case atStart => exact ⟨0, by omega, rfl, HS.out⟩
  case round =>
    obtain ⟨k, hk, rfl, hM⟩ := hrel
    by_cases hlt : k < 240
    · have hk' : k < bs.length := by rw [HL.out]; exact hlt
      have hx := HB.out _ (getD_mem hk')
      have hs := hsum_bd bs HB.out k (by omega)
      obtain ⟨x, hxv⟩ : ∃ x, x = bs.getD k 0 := ⟨_, rfl⟩
      rw [← hxv] at hx
      obtain ⟨hx0, hx1⟩ := hx
      obtain ⟨s, hsv⟩ : ∃ s, s = hsum bs k := ⟨_, rfl⟩
      obtain ⟨y, hyv⟩ : ∃ y, y = x / 2 := ⟨_, rfl⟩
      have hbk := hM.b
      have ca : wr.cell? ⟨g, k, none⟩ = some (.int .i64 x) := by rw [hbk.cell, hc_get (by rw [halfTo_len]; exact hk'), halfTo_get _ _ _ (Nat.le_refl k), hxv]
      have cs : wr.cell? ⟨g, 240, none⟩ = some (.int .i64 s) := by rw [hbk.cell, hc_in (by rw [halfTo_len]; exact HL.out), hsv]
      have fa := hbk.frozen k
      have fs := hbk.frozen 240
      have ey : x / 2 = y := hyv.symm
      have ey2 : x.tdiv 2 = y := by rw [eight x (by omega), hyv]
      have hne : ¬ k = 240 := by omega
      have hs0 : 0 ≤ s := by omega
      have hs1 : s ≤ 1000000 := by omega
      have hnext : HI w g bs o (k + 1) (((wr.setCell ⟨g, k, none⟩ (.int .i64 y)).setCell ⟨g, 240, none⟩ (.int .i64 (s + y))).drew.drew) := by
        refine ⟨?_, only_drew (only_drew (only_setCell (only_setCell hM.only (.inl rfl) _) (.inl rfl) _))⟩
        have q := (hbk.set_ k (.int .i64 y)).set_ 240 (.int .i64 (s + y))
        rw [hc_set (by rw [halfTo_len]; exact hk'), hc_set_in (by rw [List.length_set, halfTo_len]; exact HL.out)] at q
        rw [hyv, hxv, halfTo_next bs k hk', hsv, ← hsum_next bs k hk'] at q
        rw [hyv, hxv, hsv]
        rw [← hsum_next bs k hk']
        exact q
      have HN := Lib.hid hnext
      clear hM hbk hs hxv hsv hyv hk' hnext
      have hy0 : 0 ≤ y := by omega
      have hy1 : y ≤ 2048 := by omega
      go_wp2
      go_region
      go_wp2
      go_region
      go_wp2
      refine ⟨⟨k + 1, by omega, by go_num, HN.out⟩, ?_⟩
      simp [intOf]; omega
    · obtain rfl : k = 240 := by omega
      have hbk := hM.b
      have co : wr.cell? ⟨g, 241, none⟩ = some (.int .i64 o) := by rw [hbk.cell, hc_over (by rw [halfTo_len]; exact HL.out)]
      have fo := hbk.frozen 241
      have eo : o.tdiv 2 = o / 2 := eight o ho
      have hnext : HI w g bs (o / 2) 240 (wr.setCell ⟨g, 241, none⟩ (.int .i64 (o / 2))) := by
        refine ⟨?_, only_setCell hM.only (.inl rfl) _⟩
        have q := hbk.set_ 241 (.int .i64 (o / 2))
        rw [hc_set_over (by rw [halfTo_len]; exact HL.out)] at q
        exact q
      have HN := Lib.hid hnext
      clear hM hbk hnext hlt hk
      go_wp2
      go_end0
      exact ⟨rfl, HN.out⟩

end Go.Proofs.YtjmdgicdpggljaaGreat.Histo

/- Proved: what (*histo.Histo).Add leaves: the count of an idle time, one more; all counts halved, when there are as many as may be. -/
namespace Go.Proofs.YtjmdgicdpggljaaGreat.Histo
open Go.RowKit
set_option linter.unusedVariables false

/-- Counts: of each bin, of all in bins, of those that were too long. -/
structure S where
  bs : List Int
  a : Int
  o : Int
def S.cells (s : S) : Array Value := hc s.bs s.a s.o
structure Ok (s : S) : Prop where
  len : s.bs.length = 240
  pos : ∀ x ∈ s.bs, 0 ≤ x
  sum : s.a = s.bs.sum
  over : 0 ≤ s.o
  few : s.a + s.o < 4096
def S.half (s : S) : S := ⟨s.bs.map (· / 2), (s.bs.map (· / 2)).sum, s.o / 2⟩
def S.raw (s : S) (t : Int) : S := if t < 240 then ⟨s.bs.set t.toNat (s.bs.getD t.toNat 0 + 1), s.a + 1, s.o⟩ else ⟨s.bs, s.a, s.o + 1⟩
def S.add (s : S) (t : Int) : S := if t < 0 then s else if (s.raw t).a + (s.raw t).o ≥ 4096 then (s.raw t).half else s.raw t
def S.empty : S := ⟨List.replicate 240 0, 0, 0⟩

theorem le_sum : ∀ {l : List Int}, (∀ x ∈ l, 0 ≤ x) → ∀ x ∈ l, x ≤ l.sum
  | [], _, x, h => by simp at h
  | y :: l, hp, x, h => by
    have h0 := hp y (by simp)
    have hs : 0 ≤ l.sum := by
      clear h
      have : ∀ m : List Int, (∀ x ∈ m, 0 ≤ x) → 0 ≤ m.sum := by
        intro m
        induction m with
        | nil => intro _; simp
        | cons z m ih => intro hm; have := ih (fun x hx => hm x (by simp [hx])); have := hm z (by simp); simp only [List.sum_cons]; omega
      exact this l (fun x hx => hp x (by simp [hx]))
    rcases List.mem_cons.1 h with rfl | h
    · simp only [List.sum_cons]; omega
    · have := le_sum (fun x hx => hp x (by simp [hx])) x h
      simp only [List.sum_cons]; omega
theorem sum_pos {m : List Int} (h : ∀ x ∈ m, 0 ≤ x) : 0 ≤ m.sum := by
  induction m with
  | nil => simp
  | cons z m ih => have := ih (fun x hx => h x (by simp [hx])); have := h z (by simp); simp only [List.sum_cons]; omega
theorem sum_set : ∀ (l : List Int) (i : Nat) (x : Int), i < l.length → (l.set i x).sum = l.sum - l.getD i 0 + x
  | [], _, _, h => by simp at h
  | y :: l, 0, x, _ => by simp; omega
  | y :: l, i + 1, x, h => by
    have := sum_set l i x (by simpa using h)
    simp only [List.set_cons_succ, List.sum_cons, List.getD_cons_succ, this]
    omega
theorem half_sum : ∀ (l : List Int), (∀ x ∈ l, 0 ≤ x) → 0 ≤ (l.map (· / 2)).sum ∧ 2 * (l.map (· / 2)).sum ≤ l.sum
  | [], _ => by simp
  | y :: l, h => by
    have := half_sum l (fun x hx => h x (by simp [hx]))
    have := h y (by simp)
    simp only [List.map_cons, List.sum_cons]
    omega

theorem Ok.bd {s : S} (h : Ok s) : ∀ x ∈ s.bs, 0 ≤ x ∧ x ≤ 4095 := fun x hx => ⟨h.pos x hx, by have := le_sum h.pos x hx; have := h.sum; have := h.over; have := h.few; omega⟩
theorem Ok.a0 {s : S} (h : Ok s) : 0 ≤ s.a := by rw [h.sum]; exact sum_pos h.pos
theorem Ok.raw_len {s : S} (h : Ok s) (t : Int) : (s.raw t).bs.length = 240 := by unfold S.raw; split <;> simp [h.len]
theorem Ok.raw_pos {s : S} (h : Ok s) (t : Int) : ∀ x ∈ (s.raw t).bs, 0 ≤ x ∧ x ≤ 4096 := by
  unfold S.raw
  split
  · intro x hx
    rcases List.mem_or_eq_of_mem_set hx with hx | rfl
    · have := h.bd x hx; omega
    · by_cases ht : t.toNat < s.bs.length
      · have := h.bd _ (getD_mem ht); omega
      · rw [List.getD_eq_getElem?_getD, List.getElem?_eq_none (by omega)]; simp
  · intro x hx; have := h.bd x hx; omega
theorem Ok.raw_sum {s : S} (h : Ok s) {t : Int} (h0 : 0 ≤ t) : (s.raw t).a = (s.raw t).bs.sum := by
  unfold S.raw
  split
  · have := sum_set s.bs t.toNat (s.bs.getD t.toNat 0 + 1) (by rw [h.len]; omega)
    have := h.sum
    simp only
    omega
  · exact h.sum
theorem Ok.raw_all {s : S} (h : Ok s) (t : Int) : 0 ≤ (s.raw t).o ∧ 0 ≤ (s.raw t).a ∧ (s.raw t).a + (s.raw t).o = s.a + s.o + 1 := by
  have := h.a0
  have := h.over
  unfold S.raw
  split <;> simp only <;> omega
theorem Ok.add {s : S} (h : Ok s) (t : Int) : Ok (s.add t) := by
  unfold S.add
  split
  · exact h
  · next h0 =>
    have h1 := h.raw_all t
    have h2 := h.raw_sum (show 0 ≤ t by omega)
    have h3 := h.raw_len t
    have h4 := h.raw_pos t
    have h5 := h.few
    split
    · have g := half_sum (s.raw t).bs (fun x hx => (h4 x hx).1)
      refine ⟨by simp [S.half, h3], ?_, rfl, ?_, ?_⟩
      · intro x hx
        simp only [S.half, List.mem_map] at hx
        obtain ⟨y, hy, rfl⟩ := hx
        have := (h4 y hy).1
        omega
      · simp only [S.half]; omega
      · simp only [S.half]; omega
    · exact ⟨h3, fun x hx => (h4 x hx).1, h2, h1.1, by omega⟩
theorem sum_zeros : ∀ n, (List.replicate n (0 : Int)).sum = 0
  | 0 => rfl
  | n + 1 => by rw [List.replicate_succ, List.sum_cons, sum_zeros n]; rfl
theorem Ok.none : Ok S.empty := ⟨List.length_replicate, fun x hx => by rw [List.eq_of_mem_replicate hx]; exact Int.le_refl 0, (sum_zeros 240).symm, Int.le_refl 0, by show (0 : Int) + 0 < 4096; decide⟩

theorem halfTo_all (bs : List Int) (h : bs.length = 240) : halfTo bs 240 = bs.map (· / 2) ∧ hsum bs 240 = (bs.map (· / 2)).sum := by
  unfold halfTo hsum
  rw [List.take_of_length_le (by omega), List.drop_of_length_le (by omega)]
  simp

/-- The post of Add. -/
def Adds (w : World) (g : Nat) (s' : S) (e : Ending) (w' : World) : Prop := e = .returned (.tuple #[]) ∧ Blk w' g 170 s'.cells ∧ w.grownBy w' (some g)

set_option maxRecDepth 100000 in
set_option maxHeartbeats 2000000 in
theorem add_neg (g : Nat) (s : S) (t : Int) (w : World) (h : Blk w g 170 s.cells) (ht : t < 0) : Calls Tryz.prog 102 #[.pointer (some ⟨g, 0, none⟩), .int .i64 t] w (Adds w g s) := by
  have H := Lib.hid h
  clear h
  go_enter Tryz.func102, Tryz.ntmps102
  go_wp2
  first | go_end0 | refine bodyPost_ret (results_none rfl _ _ _) rfl ?_
  exact ⟨rfl, H.out, only_refl w _⟩

set_option maxRecDepth 100000 in
set_option maxHeartbeats 2000000 in
theorem add_in (g i : Nat) (s : S) (w : World) (h : Blk w g 170 s.cells) (ok : Ok s) (hi : i < 240) : Calls Tryz.prog 102 #[.pointer (some ⟨g, 0, none⟩), .int .i64 (i : Int)] w (Adds w g (s.add i)) := by
  have hraw : s.raw i = ⟨s.bs.set i (s.bs.getD i 0 + 1), s.a + 1, s.o⟩ := by unfold S.raw; rw [if_pos (by omega)]; simp
  have hadd : s.add i = if s.a + 1 + s.o ≥ 4096 then (s.raw i).half else s.raw i := by unfold S.add; rw [if_neg (by omega), hraw]
  have hi' : i < s.bs.length := by rw [ok.len]; exact hi
  obtain ⟨x, hx⟩ : ∃ x, x = s.bs.getD i 0 := ⟨_, rfl⟩
  have hxb := ok.bd _ (getD_mem hi')
  rw [← hx] at hxb
  obtain ⟨x0, x1⟩ := hxb
  have hcell : Blk w g 170 (hc s.bs s.a s.o) := h
  have c1 : w.cell? ⟨g, i, none⟩ = some (.int .i64 x) := by rw [hcell.cell, hc_get hi', hx]
  have c2 : w.cell? ⟨g, 240, none⟩ = some (.int .i64 s.a) := by rw [hcell.cell, hc_in ok.len]
  have c3 : w.cell? ⟨g, 241, none⟩ = some (.int .i64 s.o) := by rw [hcell.cell, hc_over ok.len]
  have f1 := hcell.frozen i
  have f2 := hcell.frozen 240
  obtain ⟨a, ha⟩ : ∃ a, a = s.a := ⟨_, rfl⟩
  obtain ⟨o, ho⟩ : ∃ o, o = s.o := ⟨_, rfl⟩
  have a0 : 0 ≤ a := by rw [ha]; exact ok.a0
  have o0 : 0 ≤ o := by rw [ho]; exact ok.over
  have ao : a + o < 4096 := by rw [ha, ho]; exact ok.few
  have b1 : Blk ((w.setCell ⟨g, i, none⟩ (.int .i64 (x + 1))).setCell ⟨g, 240, none⟩ (.int .i64 (a + 1))) g 170 (s.raw i).cells := by
    have q := (hcell.set_ i (.int .i64 (x + 1))).set_ 240 (.int .i64 (a + 1))
    rw [hc_set hi', hc_set_in (by rw [List.length_set]; exact ok.len)] at q
    rw [hraw, ← hx, ← ha]
    exact q
  have q1 : w.grownBy ((w.setCell ⟨g, i, none⟩ (.int .i64 (x + 1))).setCell ⟨g, 240, none⟩ (.int .i64 (a + 1))) (some g) := only_setCell (p := ⟨g, 240, none⟩) (only_setCell (p := ⟨g, i, none⟩) (only_refl w _) (.inl rfl) _) (.inl rfl) _
  rw [← ha] at c2
  rw [← ho] at c3
  rw [← ha, ← ho] at hadd
  have hne : ¬ i = 240 := by omega
  have hne2 : ¬ i = 241 := by omega
  have ch := fun W (hW : Blk W g 170 (s.raw i).cells) => halve_any g (s.raw i).bs (s.raw i).a (s.raw i).o W hW (ok.raw_len _) (ok.raw_pos _) (ok.raw_all _).1 (by have := ok.raw_all i; have := ok.few; omega)
  have hh := halfTo_all (s.raw i).bs (ok.raw_len _)
  have B1 := Lib.hid b1
  have Q1 := Lib.hid q1
  have CH := Lib.hid ch
  have HH := Lib.hid hh
  have HA := Lib.hid hadd
  clear h ok hcell hx ha ho hraw hadd b1 q1 ch hh hi'
  by_cases hfull : 4096 ≤ a + 1 + o
  · go_enter Tryz.func102, Tryz.ntmps102
    go_wp2
    go_region
    go_wp2
    go_region
    go_wp2_with fail
    refine (CH.out _ B1.out.drew.drew).mono ?_
    rintro e w' ⟨rfl, hI⟩
    have hfin : Blk w' g 170 (s.add i).cells ∧ w.grownBy w' (some g) := by
      refine ⟨?_, only_trans (only_drew (only_drew Q1.out)) hI.only⟩
      have q := hI.b
      rw [HA.out, if_pos hfull]
      unfold S.half S.cells
      rw [← HH.out.1, ← HH.out.2] at *
      exact q
    have HF := Lib.hid hfin
    clear hfin hI
    go_wp2
    first | go_end0 | refine bodyPost_ret (results_none rfl _ _ _) rfl ?_
    exact ⟨rfl, HF.out⟩
  · have hfin : s.add i = s.raw i := by rw [HA.out, if_neg hfull]
    have HF := Lib.hid hfin
    clear hfin
    go_enter Tryz.func102, Tryz.ntmps102
    go_wp2
    go_region
    go_wp2
    go_region
    go_wp2
    first | go_end0 | refine bodyPost_ret (results_none rfl _ _ _) rfl ?_
    exact ⟨rfl, by rw [HF.out]; exact B1.out, only_drew (only_drew Q1.out)⟩

set_option maxRecDepth 100000 in
set_option maxHeartbeats 2000000 in
theorem add_out (g : Nat) (t : Int) (s : S) (w : World) (h : Blk w g 170 s.cells) (ok : Ok s) (ht : 240 ≤ t) : Calls Tryz.prog 102 #[.pointer (some ⟨g, 0, none⟩), .int .i64 t] w (Adds w g (s.add t)) := by
  have hraw : s.raw t = ⟨s.bs, s.a, s.o + 1⟩ := by unfold S.raw; rw [if_neg (by omega)]
  have hadd : s.add t = if s.a + (s.o + 1) ≥ 4096 then (s.raw t).half else s.raw t := by unfold S.add; rw [if_neg (by omega), hraw]
  have hcell : Blk w g 170 (hc s.bs s.a s.o) := h
  have c2 : w.cell? ⟨g, 240, none⟩ = some (.int .i64 s.a) := by rw [hcell.cell, hc_in ok.len]
  have c3 : w.cell? ⟨g, 241, none⟩ = some (.int .i64 s.o) := by rw [hcell.cell, hc_over ok.len]
  have f2 := hcell.frozen 241
  obtain ⟨a, ha⟩ : ∃ a, a = s.a := ⟨_, rfl⟩
  obtain ⟨o, ho⟩ : ∃ o, o = s.o := ⟨_, rfl⟩
  have a0 : 0 ≤ a := by rw [ha]; exact ok.a0
  have o0 : 0 ≤ o := by rw [ho]; exact ok.over
  have ao : a + o < 4096 := by rw [ha, ho]; exact ok.few
  have b1 : Blk (w.setCell ⟨g, 241, none⟩ (.int .i64 (o + 1))) g 170 (s.raw t).cells := by
    have q := hcell.set_ 241 (.int .i64 (o + 1))
    rw [hc_set_over ok.len] at q
    rw [hraw, ← ho]
    exact q
  have q1 : w.grownBy (w.setCell ⟨g, 241, none⟩ (.int .i64 (o + 1))) (some g) := only_setCell (p := ⟨g, 241, none⟩) (only_refl w _) (.inl rfl) _
  rw [← ha] at c2
  rw [← ho] at c3
  rw [← ha, ← ho] at hadd
  have ch := fun W (hW : Blk W g 170 (s.raw t).cells) => halve_any g (s.raw t).bs (s.raw t).a (s.raw t).o W hW (ok.raw_len _) (ok.raw_pos _) (ok.raw_all _).1 (by have := ok.raw_all t; have := ok.few; omega)
  have hh := halfTo_all (s.raw t).bs (ok.raw_len _)
  have B1 := Lib.hid b1
  have Q1 := Lib.hid q1
  have CH := Lib.hid ch
  have HH := Lib.hid hh
  have HA := Lib.hid hadd
  clear h ok hcell ha ho hraw hadd b1 q1 ch hh
  by_cases hfull : 4096 ≤ a + (o + 1)
  · go_enter Tryz.func102, Tryz.ntmps102
    go_wp2
    go_region
    go_wp2_with fail
    refine (CH.out _ B1.out.drew).mono ?_
    rintro e w' ⟨rfl, hI⟩
    have hfin : Blk w' g 170 (s.add t).cells ∧ w.grownBy w' (some g) := by
      refine ⟨?_, only_trans (only_drew Q1.out) hI.only⟩
      have q := hI.b
      rw [HA.out, if_pos hfull]
      unfold S.half S.cells
      rw [← HH.out.1, ← HH.out.2] at *
      exact q
    have HF := Lib.hid hfin
    clear hfin hI
    go_wp2
    first | go_end0 | refine bodyPost_ret (results_none rfl _ _ _) rfl ?_
    exact ⟨rfl, HF.out⟩
  · have hfin : s.add t = s.raw t := by rw [HA.out, if_neg hfull]
    have HF := Lib.hid hfin
    clear hfin
    go_enter Tryz.func102, Tryz.ntmps102
    go_wp2
    go_region
    go_wp2
    first | go_end0 | refine bodyPost_ret (results_none rfl _ _ _) rfl ?_
    exact ⟨rfl, by rw [HF.out]; exact B1.out, only_drew Q1.out⟩

theorem add_any (g : Nat) (t : Int) (s : S) (w : World) (h : Blk w g 170 s.cells) (ok : Ok s) : Calls Tryz.prog 102 #[.pointer (some ⟨g, 0, none⟩), .int .i64 t] w (Adds w g (s.add t)) := by
  by_cases h0 : t < 0
  · have := add_neg g s t w h h0
    rwa [show s.add t = s by unfold S.add; rw [if_pos h0]]
  · by_cases h1 : t < 240
    · obtain ⟨i, rfl⟩ : ∃ i : Nat, t = i := ⟨t.toNat, by omega⟩
      exact add_in g i s w h ok (by omega)
    · exact add_out g t s w h ok (by omega)

end Go.Proofs.YtjmdgicdpggljaaGreat.Histo

/- Proved: what (*histo.Histo).Spread, Cut and Bin answer. The condition: the block holds counts that are no less than nought, fewer than 4096 together. -/
namespace Go.Proofs.YtjmdgicdpggljaaGreat.Histo
open Go.RowKit
set_option linter.unusedVariables false

/-- An array that lies at the head of a block, loaded whole. -/
theorem run_loadVar_arr {P : Program} (w : World) (g : Nat) (ty n e : Nat) (l : List Value) (hl : ∀ j v, l[j]? = some v → w.cell? ⟨g, j, none⟩ = some v) (hu : P.underlying ty = some (.array n e)) (hi : (P.info? ty).map (·.size) = some l.length) :
    (loadVar ty ⟨g, 0, none⟩).run P w = .ok (.agg l.toArray) w := by
  have hl' : (loadCells ⟨g, 0, none⟩ l.length).run P w = .ok l.toArray w :=
    run_loadCells_list (P := P) w ⟨g, 0, none⟩ l (fun j v hv => by
      have hadd : (⟨g, 0, none⟩ : Addr).add j = ⟨g, j, none⟩ := by unfold Addr.add; split <;> simp_all
      rw [hadd]
      exact hl j v hv)
  cases hq : P.info? ty with
  | none => simp [hq] at hi
  | some i =>
    have hs : i.size = l.length := by simpa [hq] using hi
    have hagg : (isAgg ty).run P w = .ok true w := by
      unfold isAgg
      rw [Sem.run_bind, run_underlying hu w]
      rfl
    simp [loadVar, Sem.run_bind, hagg, sizeOf, typeInfo, hq, hs, hl']
theorem wpList_load_arr {P : Program} {ops : Array Oper} {rest : List Oper} {o : Oper} {a : Act} {w : World} {Q : Exit → Act → World → Prop} (hgd : o.guard = none) (ty : TypeId) (x : Operand) (ho : o.op = .load ty x)
    (g n e : Nat) (hx : a.eval x = .pointer (some ⟨g, 0, none⟩)) (l : List Value) (hl : ∀ j v, l[j]? = some v → w.cell? ⟨g, j, none⟩ = some v)
    (hu : P.underlying ty = some (.array n e)) (hi : (P.info? ty).map (·.size) = some l.length)
    (h : wpList P ops Q rest (a.put o.dst (.agg l.toArray)) w) : wpList P ops Q (o :: rest) a w :=
  wpList_plain hgd fun _ hK => by
    unfold Oper.wp execOp
    simp only [ho, hx, Instr.loadAt, Instr.sureAddr, Sem.run_bind, Sem.run_pure, Result.andThen_ok, run_loadVar_arr w g ty n e l hl hu hi]
    exact hK _ _ h

/-- The bins as cells. -/
def bc (bs : List Int) : List Value := bs.map (Value.int .i64)
theorem bc_get {bs : List Int} {k : Nat} (h : k < bs.length) : (bc bs)[k]? = some (.int .i64 (bs.getD k 0)) := by
  unfold bc
  rw [List.getElem?_map, List.getElem?_eq_getElem h, List.getD_eq_getElem?_getD, List.getElem?_eq_getElem h]; rfl
theorem bc_cell {w : World} {g : Nat} {s : S} (h : Blk w g 170 s.cells) : ∀ j v, (bc s.bs)[j]? = some v → w.cell? ⟨g, j, none⟩ = some v := by
  intro j v hv
  have hj : j < s.bs.length := by
    rcases Nat.lt_or_ge j s.bs.length with h | h
    · exact h
    · rw [List.getElem?_eq_none (by unfold bc; simpa using h)] at hv; cases hv
  rw [bc_get hj] at hv
  have hcell : Blk w g 170 (hc s.bs s.a s.o) := h
  rw [hcell.cell, hc_get hj, hv]
theorem info54 : (Tryz.prog.info? 168).map (·.size) = some 240 := by kernel_rfl

theorem run_index (bs : List Int) (k : Nat) (hk : k < bs.length) (hl : bs.length = 240) (w : World) : (Instr.index 168 (.agg (bc bs).toArray) (.int .i64 (k : Int))).run Tryz.prog w = .ok (.int .i64 (bs.getD k 0)) w := by
  have hp : (part 3 (bc bs).toArray k).run Tryz.prog w = .ok (.int .i64 (bs.getD k 0)) w := by
    simp [part, Tryz.isAgg3, bc_get hk]
  simp [Instr.index, asIntOf, run_underlying Tryz.underlying168, Tryz.sizeOf3]
  rw [if_pos (by omega)]
  exact hp

/-- A sum of what the first k are. -/
def ps (bs : List Int) (k : Nat) : Int := (bs.take k).sum
theorem ps_next {bs : List Int} {k : Nat} (h : k < bs.length) : ps bs (k + 1) = ps bs k + bs.getD k 0 := by
  unfold ps
  rw [List.take_succ_eq_append_getElem h, List.sum_append, List.getD_eq_getElem?_getD, List.getElem?_eq_getElem h]
  simp
def sq (bs : List Int) : Nat → Int | 0 => 0 | k + 1 => sq bs k + bs.getD k 0 * bs.getD k 0
theorem sq_bd {s : S} (ok : Ok s) : ∀ k, k ≤ 240 → 0 ≤ sq s.bs k ∧ sq s.bs k ≤ 16769025 * k
  | 0, _ => by simp [sq]
  | k + 1, h => by
    have h1 := sq_bd ok k (by omega)
    have h2 := ok.bd _ (getD_mem (show k < s.bs.length by rw [ok.len]; omega))
    have h3 : 0 ≤ s.bs.getD k 0 * s.bs.getD k 0 := Int.mul_nonneg h2.1 h2.1
    have h4 : s.bs.getD k 0 * s.bs.getD k 0 ≤ 4095 * 4095 := Int.mul_le_mul h2.2 h2.2 h2.1 (by omega)
    simp only [sq]
    omega
/-- Are counts gathered enough? -/
def S.spread (s : S) : Bool := decide (0 < s.a) && decide (5 * s.a * s.a ≤ 240 * sq s.bs 240)

def RetB (r : Bool) (w : World) (e : Ending) (w' : World) : Prop := e = .returned (.bool r) ∧ ∃ n, w' = w.drewN n
theorem RetB.mk {r r' : Bool} {w w' : World} (h : r' = r) (hw : ∃ n, w' = w.drewN n) : RetB r w (.returned (.bool r')) w' := by subst h; exact ⟨rfl, hw⟩

set_option maxRecDepth 100000 in
set_option maxHeartbeats 2000000 in
theorem spread_any (g : Nat) (s : S) (w : World) (h : Blk w g 170 s.cells) (ok : Ok s) : Calls Tryz.prog 137 #[.pointer (some ⟨g, 0, none⟩)] w (RetB s.spread w) := by
  have hcell : Blk w g 170 (hc s.bs s.a s.o) := h
  have c2 : w.cell? ⟨g, 240, none⟩ = some (.int .i64 s.a) := by rw [hcell.cell, hc_in ok.len]
  have a0 := ok.a0
  have a1 : s.a ≤ 4095 := by have := ok.over; have := ok.few; omega
  have hld := bc_cell h
  have hsz : (Tryz.prog.info? 168).map (·.size) = some (bc s.bs).length := by rw [info54]; unfold bc; rw [List.length_map, ok.len]
  obtain ⟨a, ha⟩ : ∃ a, a = s.a := ⟨_, rfl⟩
  rw [← ha] at c2 a0 a1
  have HA := Lib.hid ha
  have HO := Lib.hid ok
  have HLD := Lib.hid hld
  have HSZ := Lib.hid hsz
  clear h hcell ha ok hld hsz
  go_enter Tryz.func137, Tryz.ntmps137
  go_wp2_with (refine wpList_load_arr rfl 168 (.tmp 8) rfl g 240 3 rfl (bc s.bs) HLD.out Tryz.underlying168 HSZ.out ?_)
  obtain ⟨A, hA⟩ : ∃ A, A = (bc s.bs).toArray := ⟨_, rfl⟩
  rw [← hA]
  have HAA := Lib.hid hA
  clear hA
  go_loop [3, 10] (fun sv iv => ∃ k : Nat, k ≤ 240 ∧ iv = .int .i64 k ∧ sv = .int .i64 (sq s.bs k)) (fun _ iv => 240 - (intOf iv).toNat)
  case atStart => exact ⟨0, by omega, rfl, rfl⟩
  case round =>
    obtain ⟨k, hk, rfl, rfl⟩ := hrel
    have hq := sq_bd HO.out k hk
    by_cases hlt : k < 240
    · have hk' : k < s.bs.length := by rw [HO.out.len]; exact hlt
      have hxb := HO.out.bd _ (getD_mem hk')
      have hidx := fun W => run_index s.bs k hk' HO.out.len W
      rw [← HAA.out] at hidx
      have hn : sq s.bs (k + 1) = sq s.bs k + s.bs.getD k 0 * s.bs.getD k 0 := rfl
      have hq2 := sq_bd HO.out (k + 1) (by omega)
      obtain ⟨x, hx⟩ : ∃ x, x = s.bs.getD k 0 := ⟨_, rfl⟩
      rw [← hx] at hxb hidx hn
      obtain ⟨m, hm⟩ : ∃ m, m = sq s.bs k := ⟨_, rfl⟩
      obtain ⟨m', hm'⟩ : ∃ m', m' = sq s.bs (k + 1) := ⟨_, rfl⟩
      obtain ⟨y, hy⟩ : ∃ y, y = x * x := ⟨_, rfl⟩
      rw [← hm, ← hm', ← hy] at hn
      rw [← hm] at hq ⊢
      rw [← hm'] at hq2
      obtain ⟨x0, x1⟩ := hxb
      have y0 : 0 ≤ y := by rw [hy]; exact Int.mul_nonneg x0 x0
      have y1 : y ≤ 16769025 := by rw [hy]; have := Int.mul_le_mul x1 x1 x0 (show (0 : Int) ≤ 4095 by omega); omega
      have e1 : IntKind.i64.wrap (x * x) = y := by rw [← hy]; exact IntWalk.i64_in _ (by omega)
      have e2 : wrap64 (x * x) = y := by rw [← hy]; exact IntWalk.wrap64_in _ (by omega)
      have e3 : x * x = y := hy.symm
      have e4 : IntKind.i64.wrap (m + y) = m' := by rw [hn]; exact IntWalk.i64_in _ (by omega)
      have e5 : wrap64 (m + y) = m' := by rw [hn]; exact IntWalk.wrap64_in _ (by omega)
      have e6 : m + y = m' := hn.symm
      obtain ⟨q0, q1⟩ := hq
      have HM' := Lib.hid hm'
      clear hn hy hm hm' hq2 hx hk'
      go_wp2
      go_round
      case rel => exact ⟨k + 1, by omega, by go_num, by rw [HM'.out]⟩
      case measure => simp [intOf]; omega
    · obtain rfl : k = 240 := by omega
      obtain ⟨m, hm⟩ : ∃ m, m = sq s.bs 240 := ⟨_, rfl⟩
      rw [← hm] at hq ⊢
      obtain ⟨q0, q1⟩ := hq
      obtain ⟨z, hz⟩ : ∃ z, z = 5 * a * a := ⟨_, rfl⟩
      have hz1 : 0 ≤ 5 * a * a ∧ 5 * a * a ≤ 83845125 := by
        have h1 : 0 ≤ 5 * a * a := Int.mul_nonneg (by omega) a0
        have h2 : (5 * a) * a ≤ 20475 * 4095 := Int.mul_le_mul (by omega) a1 a0 (by omega)
        exact ⟨h1, by omega⟩
      rw [← hz] at hz1
      have e1 : IntKind.i64.wrap (5 * a * a) = z := by rw [← hz]; exact IntWalk.i64_in _ (by omega)
      have e2 : wrap64 (5 * a * a) = z := by rw [← hz]; exact IntWalk.wrap64_in _ (by omega)
      have e3 : 5 * a * a = z := hz.symm
      have hs : s.spread = (decide (0 < a) && decide (z ≤ 240 * m)) := by unfold S.spread; rw [← HA.out, ← hm, ← hz]
      have HS := Lib.hid hs
      have z0 : 0 ≤ z := hz1.1
      have z1 : z ≤ 83845125 := hz1.2
      clear hs hz hm hlt hk hz1
      by_cases hp : 0 < a
      · have d1 : decide (0 < a) = true := decide_eq_true hp
        go_wp2
        go_quiet (fail)
        go_wp2
        go_ret
        exact RetB.mk (by rw [HS.out]; simp [hp]) ⟨_, rfl⟩
      · have d1 : decide (0 < a) = false := decide_eq_false hp
        go_wp2
        go_quiet (fail)
        go_wp2
        go_ret
        exact RetB.mk (by rw [HS.out, d1]; rfl) ⟨_, rfl⟩

/-- The bin at which a cut lies. -/
def Stop (s : S) (p : Int) (i : Nat) : Prop := 0 < ps s.bs (i + 1) ∧ p * s.a ≤ ps s.bs (i + 1) * 100
structure First (s : S) (p : Int) (i : Nat) : Prop where
  lt : i < 240
  yes : Stop s p i
  no : ∀ j, j < i → ¬ Stop s p j
def CutPost (s : S) (p : Int) (w : World) (e : Ending) (w' : World) : Prop := ∃ i : Nat, First s p i ∧ e = .returned (.tuple #[.int .i64 (i : Int), .bool true]) ∧ ∃ n, w' = w.drewN n
theorem ps_all {s : S} (ok : Ok s) : ps s.bs 240 = s.a := by unfold ps; rw [List.take_of_length_le (by rw [ok.len]; omega), ok.sum]
theorem ps_mono {s : S} (ok : Ok s) : ∀ k, 0 ≤ ps s.bs k ∧ ps s.bs k ≤ s.a := by
  intro k
  have h1 : 0 ≤ (s.bs.take k).sum := sum_pos (fun x hx => ok.pos x (List.mem_of_mem_take hx))
  have h2 : 0 ≤ (s.bs.drop k).sum := sum_pos (fun x hx => ok.pos x (List.mem_of_mem_drop hx))
  have h3 : (s.bs.take k).sum + (s.bs.drop k).sum = s.bs.sum := by rw [← List.sum_append, List.take_append_drop]
  have := ok.sum
  unfold ps
  omega

set_option maxRecDepth 100000 in
set_option maxHeartbeats 2000000 in
theorem cut_none (g : Nat) (s : S) (p : Int) (w : World) (h : Blk w g 170 s.cells) (ok : Ok s) (ha : s.a = 0) : Calls Tryz.prog 138 #[.pointer (some ⟨g, 0, none⟩), .int .i64 p] w fun e w' => e = .returned (.tuple #[.int .i64 0, .bool false]) ∧ ∃ n, w' = w.drewN n := by
  have hcell : Blk w g 170 (hc s.bs s.a s.o) := h
  have c2 : w.cell? ⟨g, 240, none⟩ = some (.int .i64 0) := by rw [hcell.cell, hc_in ok.len, ha]
  clear h ok ha hcell
  go_enter Tryz.func138, Tryz.ntmps138
  go_wp2
  go_ret2
  exact ⟨rfl, 0, rfl⟩

set_option maxRecDepth 100000 in
set_option maxHeartbeats 4000000 in
theorem cut_some (g : Nat) (s : S) (p0 p : Int) (w : World) (h : Blk w g 170 s.cells) (ok : Ok s) (ha0 : 0 < s.a) (hp : p = max 0 (min p0 100)) : Calls Tryz.prog 138 #[.pointer (some ⟨g, 0, none⟩), .int .i64 p0] w (CutPost s p w) := by
  have hcell : Blk w g 170 (hc s.bs s.a s.o) := h
  have c2 : w.cell? ⟨g, 240, none⟩ = some (.int .i64 s.a) := by rw [hcell.cell, hc_in ok.len]
  have a1 : s.a ≤ 4095 := by have := ok.over; have := ok.few; omega
  have hld := bc_cell h
  have hsz : (Tryz.prog.info? 168).map (·.size) = some (bc s.bs).length := by rw [info54]; unfold bc; rw [List.length_map, ok.len]
  obtain ⟨a, ha⟩ : ∃ a, a = s.a := ⟨_, rfl⟩
  rw [← ha] at c2 ha0 a1
  have hpb : 0 ≤ p ∧ p ≤ 100 := by omega
  have ep : max 0 (min p0 100) = p := hp.symm
  have ha' : (a == 0) = false := beq_eq_false_iff_ne.2 (by omega)
  have hane : ¬ a = 0 := by omega
  have HA := Lib.hid ha
  have HO := Lib.hid ok
  have HLD := Lib.hid hld
  have HSZ := Lib.hid hsz
  clear h hcell ha ok hld hsz hp
  go_enter Tryz.func138, Tryz.ntmps138
  go_wp2_with (refine wpList_load_arr rfl 168 (.tmp 19) rfl g 240 3 rfl (bc s.bs) HLD.out Tryz.underlying168 HSZ.out ?_)
  obtain ⟨A, hA⟩ : ∃ A, A = (bc s.bs).toArray := ⟨_, rfl⟩
  rw [← hA]
  have HAA := Lib.hid hA
  clear hA
  go_loop [6, 21] (fun sv iv => ∃ k : Nat, k ≤ 240 ∧ iv = .int .i64 k ∧ sv = .int .i64 (ps s.bs k) ∧ ∀ j, j < k → ¬ Stop s p j) (fun _ iv => 240 - (intOf iv).toNat)
  case atStart => exact ⟨0, by omega, rfl, rfl, fun j hj => by omega⟩
  case round =>
    obtain ⟨k, hk, rfl, rfl, hno⟩ := hrel
    have hno' := Lib.hid hno
    clear hno
    by_cases hlt : k < 240
    · have hk' : k < s.bs.length := by rw [HO.out.len]; exact hlt
      have hxb := HO.out.bd _ (getD_mem hk')
      have hidx := fun W => run_index s.bs k hk' HO.out.len W
      rw [← HAA.out] at hidx
      have hn := ps_next hk'
      have hq := ps_mono HO.out k
      have hq2 := ps_mono HO.out (k + 1)
      rw [← HA.out] at hq hq2
      obtain ⟨x, hx⟩ : ∃ x, x = s.bs.getD k 0 := ⟨_, rfl⟩
      rw [← hx] at hxb hidx hn
      obtain ⟨m, hm⟩ : ∃ m, m = ps s.bs k := ⟨_, rfl⟩
      obtain ⟨m', hm'⟩ : ∃ m', m' = ps s.bs (k + 1) := ⟨_, rfl⟩
      have hst : Stop s p k ↔ 0 < m' ∧ p * a ≤ m' * 100 := by unfold Stop; rw [← hm', ← HA.out]
      rw [← hm, ← hm'] at hn
      rw [← hm] at hq ⊢
      rw [← hm'] at hq2
      obtain ⟨x0, x1⟩ := hxb
      obtain ⟨q0, q1⟩ := hq
      obtain ⟨q2, q3⟩ := hq2
      obtain ⟨y, hy⟩ : ∃ y, y = p * a := ⟨_, rfl⟩
      have y0 : 0 ≤ y := by rw [hy]; exact Int.mul_nonneg (by omega) (by omega)
      have y1 : y ≤ 409500 := by rw [hy]; have := Int.mul_le_mul hpb.2 a1 (by omega) (show (0 : Int) ≤ 100 by omega); omega
      rw [← hy] at hst
      have e1 : IntKind.i64.wrap (p * a) = y := by rw [← hy]; exact IntWalk.i64_in _ (by omega)
      have e2 : wrap64 (p * a) = y := by rw [← hy]; exact IntWalk.wrap64_in _ (by omega)
      have e3 : p * a = y := hy.symm
      have e4 : IntKind.i64.wrap (m + x) = m' := by rw [← hn]; exact IntWalk.i64_in _ (by omega)
      have e5 : wrap64 (m + x) = m' := by rw [← hn]; exact IntWalk.wrap64_in _ (by omega)
      have e6 : m + x = m' := hn.symm
      have HM' := Lib.hid hm'
      have HST := Lib.hid hst
      have HK := Lib.hid hk
      clear hn hy hm hm' hx hk' hst hk hpb
      by_cases t1 : 0 < m'
      · have d1 : decide (0 < m') = true := decide_eq_true t1
        by_cases t2 : y ≤ m' * 100
        · have d2 : decide (y ≤ m' * 100) = true := decide_eq_true t2
          go_wp2
          go_ret2
          exact ⟨k, ⟨hlt, HST.out.2 ⟨t1, t2⟩, hno'.out⟩, rfl, 0, rfl⟩
        · have d2 : decide (y ≤ m' * 100) = false := decide_eq_false t2
          go_wp2
          go_round
          case rel => exact ⟨k + 1, by omega, by go_num, by rw [HM'.out], fun j hj => by
            by_cases e : j = k
            · subst e; exact fun hh => t2 (HST.out.1 hh).2
            · exact hno'.out j (by omega)⟩
          case measure => simp [intOf]; omega
      · have d1 : decide (0 < m') = false := decide_eq_false t1
        go_wp2
        go_round
        case rel => exact ⟨k + 1, by omega, by go_num, by rw [HM'.out], fun j hj => by
          by_cases e : j = k
          · subst e; exact fun hh => t1 (HST.out.1 hh).1
          · exact hno'.out j (by omega)⟩
        case measure => simp [intOf]; omega
    · obtain rfl : k = 240 := by omega
      exfalso
      refine hno'.out 239 (by omega) ⟨?_, ?_⟩
      · rw [ps_all HO.out, ← HA.out]; exact ha0
      · rw [ps_all HO.out, ← HA.out, Int.mul_comm a 100]; exact Int.mul_le_mul_of_nonneg_right hpb.2 (by omega)

theorem hc_bin {w : World} {g : Nat} {s : S} (h : Blk w g 170 s.cells) {i : Nat} (hi : i < s.bs.length) : w.cell? ⟨g, i, none⟩ = some (.int .i64 (s.bs.getD i 0)) := by
  have hcell : Blk w g 170 (hc s.bs s.a s.o) := h
  rw [hcell.cell, hc_get hi]

end Go.Proofs.YtjmdgicdpggljaaGreat.Histo

/- Proved: the head of the laws of package histo answers true; a cut as one number. -/
namespace Go.Proofs.YtjmdgicdpggljaaGreat.Histo
open Go.RowKit
set_option linter.unusedVariables false

theorem First.eq {s : S} {p : Int} {i j : Nat} (h : First s p i) (k : First s p j) : i = j := by
  rcases Nat.lt_trichotomy i j with h1 | h1 | h1
  · exact absurd h.yes (k.no i h1)
  · exact h1
  · exact absurd k.yes (h.no j h1)
/-- A percentage within its bounds. -/
def pc (p : Int) : Int := max 0 (min p 100)
/-- The cut, as a number: 0 where there is none. -/
noncomputable def S.cut (s : S) (p : Int) : Nat := open Classical in if h : ∃ i, First s (pc p) i then Classical.choose h else 0
theorem cut_of {s : S} {p : Int} {i : Nat} (h : First s (pc p) i) : s.cut p = i := by
  unfold S.cut
  rw [dif_pos ⟨i, h⟩]
  exact (Classical.choose_spec (p := fun i => First s (pc p) i) ⟨i, h⟩).eq h
theorem cut_zero {s : S} (ok : Ok s) (p : Int) (ha : s.a = 0) : s.cut p = 0 := by
  unfold S.cut
  split
  · next h =>
    obtain ⟨i, hi⟩ := h
    have h1 := hi.yes.1
    have h2 := (ps_mono ok (i + 1)).2
    omega
  · rfl
theorem cut_first {s : S} (ok : Ok s) (p : Int) (ha : 0 < s.a) : First s (pc p) (s.cut p) := by
  have key : ∃ i, First s (pc p) i := by
    have h0 : Stop s (pc p) 239 := by
      refine ⟨?_, ?_⟩
      · rw [ps_all ok]; exact ha
      · rw [ps_all ok, Int.mul_comm s.a 100]; exact Int.mul_le_mul_of_nonneg_right (by unfold pc; omega) (by omega)
    have least : ∀ n, n ≤ 240 → (∀ j, j < n → ¬ Stop s (pc p) j) ∨ ∃ i, i < n ∧ First s (pc p) i := by
      intro n
      induction n with
      | zero => intro _; exact .inl (fun j hj => by omega)
      | succ n ih =>
        intro hn
        rcases ih (by omega) with h | ⟨i, hi, h⟩
        · by_cases hs : Stop s (pc p) n
          · exact .inr ⟨n, by omega, by omega, hs, h⟩
          · refine .inl (fun j hj => ?_)
            by_cases e : j = n
            · subst e; exact hs
            · exact h j (by omega)
        · exact .inr ⟨i, by omega, h⟩
    rcases least 240 (by omega) with h | ⟨i, _, h⟩
    · exact absurd h0 (h 239 (by omega))
    · exact ⟨i, h⟩
  obtain ⟨i, h⟩ := key
  rw [cut_of h]
  exact h

def RetC (i : Int) (b : Bool) (w : World) (e : Ending) (w' : World) : Prop := e = .returned (.tuple #[.int .i64 i, .bool b]) ∧ ∃ n, w' = w.drewN n
theorem cut_any (g : Nat) (s : S) (p : Int) (w : World) (h : Blk w g 170 s.cells) (ok : Ok s) : Calls Tryz.prog 138 #[.pointer (some ⟨g, 0, none⟩), .int .i64 p] w (RetC (s.cut p : Int) (decide (0 < s.a)) w) := by
  by_cases ha : 0 < s.a
  · refine (cut_some g s p (pc p) w h ok ha rfl).mono ?_
    rintro e w' ⟨i, hi, he, hw⟩
    rw [cut_of hi, decide_eq_true ha]
    exact ⟨he, hw⟩
  · have h0 : s.a = 0 := by have := ok.a0; omega
    rw [cut_zero ok p h0, decide_eq_false ha]
    exact cut_none g s p w h ok h0

/-- A histogram in a block of the call's own. -/
structure HW (w : World) (g : Nat) (s : S) (wr : World) : Prop where
  b : Blk wr g 170 s.cells
  below : Below w.heap.size w wr
  new : w.heap.size ≤ g
theorem HW.adds {w wr w' : World} {g : Nat} {s s' : S} {e : Ending} (h : HW w g s wr) (a : Adds wr g s' e w') : HW w g s' w' :=
  ⟨a.2.1, below_only h.below a.2.2 h.new h.below.size, h.new⟩
theorem HW.drewN {w wr : World} {g : Nat} {s : S} (h : HW w g s wr) (n : Nat) : HW w g s (wr.drewN n) :=
  ⟨h.b, ⟨h.below.os, h.below.tape, h.below.output, h.below.size, h.below.block⟩, h.new⟩
theorem HW.first (w w1 : World) (hb : Below w.heap.size w w1) : HW w w1.heap.size S.empty (w1.alloc (.cells (hc (List.replicate 240 0) 0 0) 170)) :=
  ⟨Blk.new w1 170 _, hb.alloc hb.size _, hb.size⟩
/-- Another histogram's block keeps this one. -/
theorem HW.other {w wr w' : World} {g g2 : Nat} {s s2 s' : S} {e : Ending} (h : HW w g s wr) (h2 : HW w g2 s2 wr) (a : Adds wr g2 s' e w') (hne : g ≠ g2) : HW w g s w' :=
  ⟨h.b.grown a.2.2 (fun e => hne (by injection e)), (h2.adds a).below, h.new⟩

def Yes (w : World) (e : Ending) (w' : World) : Prop := e = .returned (.bool true) ∧ Below w.heap.size w w'
theorem Yes.mk {b : Bool} {w w' : World} (h : b = true) (hw : Below w.heap.size w w') : Yes w (.returned (.bool b)) w' := by subst h; exact ⟨rfl, hw⟩

instance (s : S) (p : Int) (i : Nat) : Decidable (Stop s p i) := by unfold Stop; infer_instance
def h3 : S := ((S.empty.add 3).add 3).add 9
theorem h3_a : h3.a = 3 := by decide +kernel
theorem h3_50 : h3.cut 50 = 3 := cut_of ⟨by omega, by decide +kernel, by decide +kernel⟩
theorem h3_99 : h3.cut 99 = 9 := cut_of ⟨by omega, by decide +kernel, by decide +kernel⟩

end Go.Proofs.YtjmdgicdpggljaaGreat.Histo

/- Proved: the walk of the law HistoOnes: it answers true, for all numbers. -/
namespace Go.Proofs.YtjmdgicdpggljaaGreat.Histo
open Go.RowKit
set_option linter.unusedVariables false

theorem i64_mask (n m : Int) (j : Nat) (h : (BitVec.ofInt 64 m).toNat = 2 ^ j - 1) : Go.bits .and .i64 n m = IntKind.i64.wrap (((n % ((2 ^ 64 : Nat) : Int)).toNat % 2 ^ j : Nat) : Int) := by
  have key : (BitVec.ofInt 64 n &&& BitVec.ofInt 64 m).toNat = (n % ((2 ^ 64 : Nat) : Int)).toNat % 2 ^ j := by
    rw [BitVec.toNat_and, BitVec.toNat_ofInt, h, Nat.and_two_pow_sub_one_eq_mod]
  show IntKind.i64.wrap ((BitVec.ofInt 64 n &&& BitVec.ofInt 64 m).toNat : Nat) = _
  rw [key]
theorem and_255 (n : Int) : Go.bits .and .i64 n 255 = n % 256 := by rw [i64_mask n 255 8 (by decide), IntKind.wrap_i64]; omega
theorem and_127 (n : Int) : Go.bits .and .i64 n 127 = n % 128 := by rw [i64_mask n 127 7 (by decide), IntKind.wrap_i64]; omega
theorem and_63 (n : Int) : Go.bits .and .i64 n 63 = n % 64 := by rw [i64_mask n 63 6 (by decide), IntKind.wrap_i64]; omega
theorem and_31 (n : Int) : Go.bits .and .i64 n 31 = n % 32 := by rw [i64_mask n 31 5 (by decide), IntKind.wrap_i64]; omega
theorem and_15 (n : Int) : Go.bits .and .i64 n 15 = n % 16 := by rw [i64_mask n 15 4 (by decide), IntKind.wrap_i64]; omega
theorem and_7 (n : Int) : Go.bits .and .i64 n 7 = n % 8 := by rw [i64_mask n 7 3 (by decide), IntKind.wrap_i64]; omega
theorem and_4095 (n : Int) : Go.bits .and .i64 n 4095 = n % 4096 := by rw [i64_mask n 4095 12 (by decide), IntKind.wrap_i64]; omega
theorem and_u16 (n : Int) : Go.bits .and .i64 n 65535 = n % 65536 := by rw [i64_mask n 65535 16 (by decide), IntKind.wrap_i64]; omega
theorem bq {x y : Int} (h : x = y) : (x == y) = true := beq_iff_eq.2 h
theorem nq {x y : Int} (h : ¬ x = y) : (x == y) = false := beq_eq_false_iff_ne.2 h

/-- So many idle times alike behind others. -/
def S.addN (s : S) (t : Int) : Nat → S | 0 => s | k + 1 => (s.addN t k).add t
theorem Ok.addN {s : S} (h : Ok s) (t : Int) : ∀ k, Ok (s.addN t k)
  | 0 => h
  | k + 1 => (h.addN t k).add t
def zeros : List Int := List.replicate 240 0
theorem zeros_len : zeros.length = 240 := List.length_replicate
theorem zeros_get (i : Nat) : zeros.getD i 0 = 0 := by
  unfold zeros
  rw [List.getD_eq_getElem?_getD, List.getElem?_replicate]
  split <;> rfl
theorem one_bin {t : Nat} (ht : t < 240) : ∀ k, k < 4096 → S.empty.addN t k = ⟨zeros.set t k, k, 0⟩
  | 0, _ => by
    show S.empty = _
    unfold S.empty
    congr 1
    apply List.ext_getElem?
    intro i
    rw [List.getElem?_set]
    split
    · next h =>
      subst h
      rw [if_pos (by rw [zeros_len]; exact ht), List.getElem?_replicate, if_pos ht]; rfl
    · rfl
  | k + 1, hk => by
    have ih := one_bin ht k (by omega)
    have hr : (S.mk (zeros.set t k) k 0).raw t = ⟨zeros.set t ((k + 1 : Nat) : Int), ((k + 1 : Nat) : Int), 0⟩ := by
      unfold S.raw
      rw [if_pos (by omega)]
      simp only [Int.toNat_natCast]
      rw [List.set_set, List.getD_eq_getElem?_getD, List.getElem?_set_self (by rw [zeros_len]; exact ht)]
      simp
    show (S.empty.addN t k).add t = _
    rw [ih]
    unfold S.add
    rw [if_neg (by omega), hr]
    simp only
    rw [if_neg (by omega)]
theorem out_bin {t : Int} (ht : 240 ≤ t) : ∀ k, k < 4096 → S.empty.addN t k = ⟨zeros, 0, k⟩
  | 0, _ => rfl
  | k + 1, hk => by
    have ih := out_bin ht k (by omega)
    have hr : (S.mk zeros 0 k).raw t = ⟨zeros, 0, ((k + 1 : Nat) : Int)⟩ := by
      unfold S.raw
      rw [if_neg (by omega)]
      simp
    show (S.empty.addN t k).add t = _
    rw [ih]
    unfold S.add
    rw [if_neg (by omega), hr]
    simp only
    rw [if_neg (by omega)]
theorem ps_one {t : Nat} (ht : t < 240) (x : Int) (k : Nat) : ps (zeros.set t x) k = if t < k then x else 0 := by
  unfold ps
  rw [List.take_set]
  have hz : ∀ m, ((zeros.take m).sum : Int) = 0 := fun m => by unfold zeros; rw [List.take_replicate]; exact sum_zeros _
  split
  · next h =>
    rw [sum_set _ _ _ (by rw [List.length_take, zeros_len]; omega), hz]
    have : (zeros.take k).getD t 0 = 0 := by
      rw [List.getD_eq_getElem?_getD, List.getElem?_take, if_pos h, ← List.getD_eq_getElem?_getD]; exact zeros_get t
    omega
  · next h =>
    rw [List.set_eq_of_length_le (by rw [List.length_take]; omega), hz]
theorem cut_one {t : Nat} (ht : t < 240) {n : Nat} (hn : 0 < n) (p : Int) : (S.mk (zeros.set t n) n 0).cut p = t := by
  refine cut_of ⟨ht, ⟨?_, ?_⟩, fun j hj hs => ?_⟩
  · simp only; rw [ps_one ht, if_pos (by omega)]; omega
  · simp only; rw [ps_one ht, if_pos (by omega), Int.mul_comm (n : Int) 100]; exact Int.mul_le_mul_of_nonneg_right (by unfold pc; omega) (by omega)
  · have := hs.1
    simp only at this
    rw [ps_one ht, if_neg (by omega)] at this
    omega

end Go.Proofs.YtjmdgicdpggljaaGreat.Histo

/- Proved: the walk of the law HistoSpreads: it answers true, for all numbers. -/
namespace Go.Proofs.YtjmdgicdpggljaaGreat.Histo
open Go.RowKit
set_option linter.unusedVariables false

theorem sq_zero (l : List Int) (h : ∀ i, l.getD i 0 = 0) : ∀ k, sq l k = 0
  | 0 => rfl
  | k + 1 => by simp only [sq, sq_zero l h k, h k]; omega
theorem sq_one {t : Nat} (ht : t < 240) (x : Int) : ∀ k, sq (zeros.set t x) k = if t < k then x * x else 0
  | 0 => by simp [sq]
  | k + 1 => by
    have hg : (zeros.set t x).getD k 0 = if t = k then x else 0 := by
      rw [List.getD_eq_getElem?_getD, List.getElem?_set]
      split
      · rw [if_pos (by rw [zeros_len]; omega)]; rfl
      · rw [← List.getD_eq_getElem?_getD]; exact zeros_get k
    simp only [sq, sq_one ht x k, hg]
    by_cases h1 : t < k
    · rw [if_pos h1, if_neg (by omega), if_pos (by omega)]; omega
    · by_cases h2 : t = k
      · rw [if_neg h1, if_pos h2, if_pos (by omega)]; omega
      · rw [if_neg h1, if_neg h2, if_neg (by omega)]; omega
theorem spread_one {t n : Nat} (ht : t < 240) (hn : 0 < n) : (S.mk (zeros.set t n) n 0).spread = true := by
  unfold S.spread
  simp only [sq_one ht, if_pos ht]
  have h1 : 5 * (n : Int) * n ≤ 240 * ((n : Int) * n) := by
    rw [Int.mul_assoc]; exact Int.mul_le_mul_of_nonneg_right (by omega) (Int.mul_nonneg (by omega) (by omega))
  simp [h1, hn]

/-- Each bin e times, the first b once more. -/
def S2 (e b : Nat) : S := ⟨(List.range 240).map fun i => (e : Int) + if i < b then 1 else 0, e * 240 + b, 0⟩
theorem S.ext_ {s t : S} (h1 : s.bs = t.bs) (h2 : s.a = t.a) (h3 : s.o = t.o) : s = t := by
  cases s; cases t; simp only at h1 h2 h3; subst h1 h2 h3; rfl
theorem S2_len (e b : Nat) : (S2 e b).bs.length = 240 := by simp [S2]
theorem S2_0 : S2 0 0 = S.empty := S.ext_ (by decide +kernel) (by simp [S2, S.empty]) rfl
theorem S2_up (e : Nat) : S2 e 240 = S2 (e + 1) 0 := by
  refine S.ext_ ?_ ?_ rfl
  · unfold S2
    simp only
    apply List.map_congr_left
    intro i hi
    rw [List.mem_range] at hi
    rw [if_pos hi, if_neg (by omega)]
    omega
  · show (e : Int) * 240 + ((240 : Nat) : Int) = ((e + 1 : Nat) : Int) * 240 + ((0 : Nat) : Int)
    omega
theorem S2_get (e b i : Nat) (hi : i < 240) : (S2 e b).bs.getD i 0 = (e : Int) + if i < b then 1 else 0 := by
  unfold S2
  rw [List.getD_eq_getElem?_getD, List.getElem?_map, List.getElem?_range hi]; rfl
theorem S2_next (e b : Nat) (hb : b < 240) (he : e < 8) : (S2 e b).add b = S2 e (b + 1) := by
  have hr : (S2 e b).raw b = S2 e (b + 1) := by
    unfold S.raw
    rw [if_pos (by omega)]
    have hs : (S2 e b).bs.set b ((S2 e b).bs.getD b 0 + 1) = (S2 e (b + 1)).bs := by
      apply List.ext_getElem?
      intro i
      rw [List.getElem?_set]
      split
      · next h =>
        subst h
        rw [if_pos (by rw [S2_len]; exact hb), S2_get e b b hb, if_neg (by omega)]
        show _ = ((List.range 240).map fun i : Nat => (e : Int) + if i < b + 1 then 1 else 0)[b]?
        rw [List.getElem?_map, List.getElem?_range hb]
        simp only [Option.map_some]
        rw [if_pos (by omega)]
        congr 1
      · next h =>
        show ((List.range 240).map fun i : Nat => (e : Int) + if i < b then 1 else 0)[i]? = ((List.range 240).map fun i : Nat => (e : Int) + if i < b + 1 then 1 else 0)[i]?
        rw [List.getElem?_map, List.getElem?_map]
        by_cases hi : i < 240
        · simp only [List.getElem?_range hi, Option.map_some]
          by_cases h2 : i < b
          · rw [if_pos h2, if_pos (by omega)]
          · rw [if_neg h2, if_neg (by omega)]
        · rw [List.getElem?_eq_none (by simpa using hi)]; rfl
    refine S.ext_ ?_ ?_ rfl
    · simp only [Int.toNat_natCast]; exact hs
    · show (e : Int) * 240 + (b : Int) + 1 = (e : Int) * 240 + ((b + 1 : Nat) : Int)
      omega
  unfold S.add
  rw [if_neg (by omega), hr]
  have : (S2 e (b + 1)).a + (S2 e (b + 1)).o < 4096 := by
    show (e : Int) * 240 + ((b + 1 : Nat) : Int) + 0 < 4096
    omega
  rw [if_neg (by omega)]
theorem S2_row (e : Nat) (he : e < 8) (h : Ok (S2 e 0)) : ∀ b, b ≤ 240 → Ok (S2 e b)
  | 0, _ => h
  | b + 1, hb => by rw [← S2_next e b (by omega) he]; exact (S2_row e he h b (by omega)).add _
theorem S2_ok0 : ∀ e, e ≤ 8 → Ok (S2 e 0)
  | 0, _ => by rw [S2_0]; exact Ok.none
  | e + 1, he => by rw [← S2_up]; exact S2_row e (by omega) (S2_ok0 e (by omega)) 240 (Nat.le_refl _)
theorem S2_sq (e : Nat) : ∀ k, k ≤ 240 → sq (S2 e 0).bs k = k * ((e : Int) * e)
  | 0, _ => by simp [sq]
  | k + 1, h => by
    simp only [sq, S2_sq e k (by omega), S2_get e 0 k (by omega)]
    rw [if_neg (by omega)]
    grind
theorem S2_spread (e : Nat) (he : 0 < e) : (S2 e 0).spread = false := by
  unfold S.spread
  rw [S2_sq e 240 (by omega)]
  have h0 : (0 : Int) < (e : Int) * e := Int.mul_pos (by omega) (by omega)
  have h1 : 5 * (S2 e 0).a * (S2 e 0).a = 288000 * ((e : Int) * e) := by unfold S2; simp only; grind
  rw [h1]
  have h2 : ¬ 288000 * ((e : Int) * e) ≤ 240 * (((240 : Nat) : Int) * ((e : Int) * e)) := by omega
  rw [decide_eq_false h2, Bool.and_false]

theorem spread_empty : S.empty.spread = false := rfl

end Go.Proofs.YtjmdgicdpggljaaGreat.Histo

/- Proved: slices of 64-bit numbers as the laws of histo open them; what few idle times leave in a histogram. -/
namespace Go.Proofs.YtjmdgicdpggljaaGreat.Histo
open Go.RowKit
set_option linter.unusedVariables false

/-- A slice of 64-bit numbers, as it was opened. -/
def IsRow (w : World) (a : Option Addr) (len cap : Nat) (zs : List Int) : Prop :=
  (a = none ∧ len = 0 ∧ cap = 0 ∧ zs = []) ∨
  ∃ x, a = some x ∧ len ≤ cap ∧ cap ≤ maxLen ∧ zs.length = cap ∧ (∀ i, i < zs.length → w.cell? (x.add i) = some (.int .i64 (zs.getD i 0))) ∧ ∀ n ∈ zs, (Lit.int .i64 n).wf = true

/-- Its elements, and where they lie. -/
def Elems (w : World) (a : Option Addr) (n : Nat) (xs : Nat → Int) : Prop := ∀ k, k < n → ∃ b off, a = some ⟨b, off, none⟩ ∧ b < w.heap.size ∧ ∀ j, j < n → w.cell? ⟨b, off + j, none⟩ = some (.int .i64 (xs j))
theorem IsRow.le {w : World} {a : Option Addr} {len cap : Nat} {zs : List Int} (h : IsRow w a len cap zs) : len ≤ maxLen := by
  rcases h with ⟨_, h, _⟩ | ⟨x, rfl, hl, hm, hz, hc, hw⟩
  · omega
  · omega
theorem IsRow.elems {w : World} {a : Option Addr} {len cap : Nat} {zs : List Int} (h : IsRow w a len cap zs) : Elems w a len (fun i => zs.getD i 0) := by
  intro k h0
  rcases h with ⟨_, h, _⟩ | ⟨x, rfl, hl, hm, hz, hc, hw⟩
  · omega
  · obtain ⟨b, off, spot⟩ := x
    have hspot : spot = none := by simpa [Addr.add] using World.cell?_spot (hc 0 (by omega))
    subst hspot
    have hc' : ∀ i, i < zs.length → w.cell? ⟨b, off + i, none⟩ = some (.int .i64 (zs.getD i 0)) := fun i hi => by
      have := hc i hi
      rwa [Go.WideShapes.add_plain] at this
    refine ⟨b, off, rfl, ?_, fun i hi => hc' i (by omega)⟩
    have := hc' 0 (by omega)
    unfold World.cell? at this
    rcases Nat.lt_or_ge b w.heap.size with hlt | hge
    · exact hlt
    · simp [Array.getElem?_eq_none hge] at this

/-- A histogram behind the first k idle times. -/
def st (xs : Nat → Int) : Nat → S | 0 => S.empty | k + 1 => (st xs k).add (xs k)
theorem st_ok (xs : Nat → Int) : ∀ k, Ok (st xs k)
  | 0 => Ok.none
  | k + 1 => (st_ok xs k).add _
theorem Ok.add_few {s : S} (h : Ok s) {t : Int} (hf : s.a + s.o < 4095) : s.add t = if t < 0 then s else s.raw t := by
  unfold S.add
  split
  · rfl
  · have := (h.raw_all t).2.2
    rw [if_neg (by omega)]
theorem st_few (xs : Nat → Int) : ∀ k, k ≤ 4000 → (st xs k).a + (st xs k).o ≤ k
  | 0, _ => by simp [st, S.empty]
  | k + 1, h => by
    have h1 := st_few xs k (by omega)
    have h2 := (st_ok xs k).raw_all (xs k)
    show ((st xs k).add (xs k)).a + ((st xs k).add (xs k)).o ≤ _
    rw [(st_ok xs k).add_few (by omega)]
    split <;> omega
theorem st_next (xs : Nat → Int) (k : Nat) (h : k ≤ 4000) : st xs (k + 1) = if xs k < 0 then st xs k else (st xs k).raw (xs k) :=
  (st_ok xs k).add_few (by have := st_few xs k h; omega)

theorem raw_get {s : S} (h : Ok s) {t : Int} (h0 : 0 ≤ t) (v : Nat) (hv : v < 240) : (s.raw t).bs.getD v 0 = s.bs.getD v 0 + if t = v then 1 else 0 := by
  unfold S.raw
  split
  · next ht =>
    simp only
    rw [List.getD_eq_getElem?_getD, List.getElem?_set]
    by_cases e : t = v
    · rw [if_pos e, if_pos (by omega), if_pos (by rw [h.len]; omega)]
      rw [show t.toNat = v by omega]; rfl
    · rw [if_neg e, if_neg (by omega), ← List.getD_eq_getElem?_getD]; omega
  · next ht => rw [if_neg (by omega)]; simp only; omega

theorem ps_zero (bs : List Int) : ∀ k, k ≤ bs.length → (∀ i, i < k → bs.getD i 0 = 0) → ps bs k = 0
  | 0, _, _ => rfl
  | k + 1, h, hz => by rw [ps_next (by omega), ps_zero bs k (by omega) (fun i hi => hz i (by omega)), hz k (by omega)]; rfl
theorem ps_le {s : S} (ok : Ok s) {i : Nat} : ∀ {m : Nat}, i < m → m ≤ 240 → ps s.bs i + s.bs.getD i 0 ≤ ps s.bs m
  | 0, h, _ => by omega
  | m + 1, h, hm => by
    have hb := ok.bd _ (getD_mem (show m < s.bs.length by rw [ok.len]; omega))
    rw [ps_next (show m < s.bs.length by rw [ok.len]; omega)]
    by_cases e : i = m
    · subst e; omega
    · have := ps_le ok (show i < m by omega) (by omega)
      omega
theorem ps_rest {s : S} (ok : Ok s) {j : Nat} (hz : ∀ i, j ≤ i → i < 240 → s.bs.getD i 0 = 0) : ∀ m, j ≤ m → m ≤ 240 → ps s.bs m = ps s.bs j
  | 0, h, _ => by have : j = 0 := by omega
                  subst this; rfl
  | m + 1, h, hm => by
    by_cases e : j = m + 1
    · subst e; rfl
    · rw [ps_next (show m < s.bs.length by rw [ok.len]; omega), ps_rest ok hz m (by omega) (by omega), hz m (by omega) (by omega)]; omega
theorem getD_pos {s : S} (ok : Ok s) (i : Nat) (hi : i < 240) : 0 ≤ s.bs.getD i 0 := (ok.bd _ (getD_mem (show i < s.bs.length by rw [ok.len]; exact hi))).1

/-- The least and the greatest of those that are counted one by one. -/
def le (xs : Nat → Int) : Nat → Int | 0 => 240 | k + 1 => if 0 ≤ xs k ∧ xs k < 240 then min (le xs k) (xs k) else le xs k
def mo (xs : Nat → Int) : Nat → Int | 0 => -1 | k + 1 => if 0 ≤ xs k ∧ xs k < 240 then max (mo xs k) (xs k) else mo xs k
structure LM (s : S) (l m : Int) : Prop where
  all : ∀ v : Nat, v < 240 → 0 < s.bs.getD v 0 → l ≤ v ∧ (v : Int) ≤ m
  non : m < 0 → l = 240 ∧ m = -1 ∧ s.a = 0
  some : 0 ≤ m → 0 ≤ l ∧ l ≤ m ∧ m < 240 ∧ 0 < s.bs.getD m.toNat 0 ∧ 0 < s.bs.getD l.toNat 0
theorem lm (xs : Nat → Int) : ∀ k, k ≤ 4000 → LM (st xs k) (le xs k) (mo xs k)
  | 0, _ => ⟨fun v hv h => by
      have e : (st xs 0).bs = zeros := rfl
      rw [e, zeros_get] at h; omega, fun _ => ⟨rfl, rfl, rfl⟩, fun h => by simp [mo] at h⟩
  | k + 1, hk => by
    have ih := lm xs k (by omega)
    have ok := st_ok xs k
    rw [st_next xs k (by omega)]
    simp only [le, mo]
    by_cases h0 : xs k < 0
    · rw [if_pos h0, if_neg (by omega), if_neg (by omega)]; exact ih
    · rw [if_neg h0]
      by_cases h1 : xs k < 240
      · rw [if_pos ⟨by omega, h1⟩, if_pos ⟨by omega, h1⟩]
        have hg := fun v hv => raw_get ok (show 0 ≤ xs k by omega) v hv
        obtain ⟨x, hx⟩ : ∃ x : Nat, xs k = x := ⟨(xs k).toNat, by omega⟩
        rw [hx] at h1 hg ⊢
        have hge : ∀ v : Nat, v < 240 → 0 ≤ (st xs k).bs.getD v 0 := fun v hv => getD_pos ok v hv
        refine ⟨fun v hv hp => ?_, fun h => by omega, fun _ => ?_⟩
        · rw [hg v hv] at hp
          by_cases e : (x : Int) = (v : Int)
          · omega
          · rw [if_neg e] at hp
            have := ih.all v hv (by omega)
            omega
        · refine ⟨?_, by omega, ?_, ?_, ?_⟩
          · by_cases hm : mo xs k < 0
            · have := ih.non hm; omega
            · have := ih.some (by omega); omega
          · by_cases hm : mo xs k < 0
            · omega
            · have := ih.some (by omega); omega
          · have hb : (max (mo xs k) (x : Int)).toNat < 240 := by
              by_cases hm : mo xs k < 0
              · omega
              · have := ih.some (by omega); omega
            rw [hg _ hb]
            have := hge _ hb
            by_cases e : max (mo xs k) (x : Int) = x
            · rw [if_pos (by omega)]; omega
            · have e2 : max (mo xs k) (x : Int) = mo xs k := by omega
              rw [e2] at hb this ⊢
              have q := (ih.some (by omega)).2.2.2.1
              split <;> omega
          · have hb : (min (le xs k) (x : Int)).toNat < 240 := by omega
            rw [hg _ hb]
            have := hge _ hb
            by_cases e : min (le xs k) (x : Int) = x
            · rw [if_pos (by omega)]; omega
            · have e2 : min (le xs k) (x : Int) = le xs k := by omega
              rw [e2] at *
              by_cases hm : mo xs k < 0
              · have := ih.non hm; omega
              · have q := ih.some (by omega)
                have := q.2.2.2.2
                split <;> omega
      · rw [if_neg (by omega), if_neg (by omega)]
        have e : (st xs k).raw (xs k) = ⟨(st xs k).bs, (st xs k).a, (st xs k).o + 1⟩ := by unfold S.raw; rw [if_neg h1]
        rw [e]
        exact ⟨ih.all, ih.non, ih.some⟩

theorem LM.pos {s : S} {l m : Int} (h : LM s l m) (ok : Ok s) (hm : 0 ≤ m) : 0 < s.a := by
  obtain ⟨h1, h2, h3, h4, h5⟩ := h.some hm
  have := ps_le ok (show m.toNat < 240 by omega) (Nat.le_refl 240)
  have := (ps_mono ok m.toNat).1
  rw [ps_all ok] at *
  omega
theorem LM.cut0 {s : S} {l m : Int} (h : LM s l m) (ok : Ok s) (hm : 0 ≤ m) : (s.cut 0 : Int) = l := by
  obtain ⟨h1, h2, h3, h4, h5⟩ := h.some hm
  have e : s.cut 0 = l.toNat := by
    refine cut_of ⟨by omega, ⟨?_, ?_⟩, fun j hj hs => ?_⟩
    · have := ps_le ok (show l.toNat < l.toNat + 1 by omega) (by omega)
      have := (ps_mono ok l.toNat).1
      omega
    · rw [show pc 0 * s.a = 0 by rw [show pc 0 = 0 by decide]; omega]
      have := (ps_mono ok (l.toNat + 1)).1
      omega
    · have hz := ps_zero s.bs (j + 1) (by rw [ok.len]; omega) (fun i hi => by
        by_cases hp : 0 < s.bs.getD i 0
        · have := h.all i (by omega) hp; omega
        · have := getD_pos ok i (by omega); omega)
      have := hs.1
      omega
  omega
theorem LM.cut100 {s : S} {l m : Int} (h : LM s l m) (ok : Ok s) (hm : 0 ≤ m) : (s.cut 100 : Int) = m := by
  obtain ⟨h1, h2, h3, h4, h5⟩ := h.some hm
  have hpos := h.pos ok hm
  have hpc : pc 100 = 100 := by decide
  have hall : ps s.bs (m.toNat + 1) = s.a := by
    rw [← ps_all ok]
    exact (ps_rest ok (fun i hi hi' => by
      by_cases hp : 0 < s.bs.getD i 0
      · have := h.all i (by omega) hp; omega
      · have := getD_pos ok i (by omega); omega) 240 (by omega) (Nat.le_refl _)).symm
  have e : s.cut 100 = m.toNat := by
    refine cut_of ⟨by omega, ⟨by rw [hall]; exact hpos, by rw [hall, hpc]; omega⟩, fun j hj hs => ?_⟩
    have h6 := ps_le ok (show m.toNat < 240 by omega) (Nat.le_refl 240)
    rw [ps_all ok] at h6
    have h7 : ps s.bs (j + 1) ≤ ps s.bs m.toNat := by
      by_cases e : j + 1 = m.toNat
      · rw [e]; exact Int.le_refl _
      · have := ps_le ok (show j + 1 < m.toNat by omega) (by omega)
        have := getD_pos ok (j + 1) (by omega)
        omega
    have := hs.2
    rw [hpc] at this
    omega
  omega
theorem cut_mono {s : S} (ok : Ok s) {p q : Int} (h : p ≤ q) (ha : 0 < s.a) : s.cut p ≤ s.cut q := by
  have hp := cut_first ok p ha
  have hq := cut_first ok q ha
  rcases Nat.lt_or_ge (s.cut q) (s.cut p) with hlt | hge
  · exfalso
    refine hp.no _ hlt ⟨hq.yes.1, Int.le_trans ?_ hq.yes.2⟩
    exact Int.mul_le_mul_of_nonneg_right (by unfold pc; omega) (by omega)
  · exact hge
theorem cut_pc {s : S} {p q : Int} (h : pc p = pc q) : s.cut p = s.cut q := by unfold S.cut; rw [h]
theorem cut_ge0 {s : S} (ok : Ok s) (p : Int) (ha : 0 < s.a) : s.cut 0 ≤ s.cut p := by
  by_cases h : 0 ≤ p
  · exact cut_mono ok h ha
  · rw [cut_pc (show pc p = pc 0 by unfold pc; omega)]; exact Nat.le_refl _
theorem cut_le100 {s : S} (ok : Ok s) (p : Int) (ha : 0 < s.a) : s.cut p ≤ s.cut 100 := by
  by_cases h : p ≤ 100
  · exact cut_mono ok h ha
  · rw [cut_pc (show pc p = pc 100 by unfold pc; omega)]; exact Nat.le_refl _
theorem spread_none {s : S} (h : s.a = 0) : s.spread = false := by unfold S.spread; rw [h]; rfl

end Go.Proofs.YtjmdgicdpggljaaGreat.Histo

/- Proved: what (*histo.Histo).Counts answers: a new row of the bins. What a turned list of idle times leaves in a histogram. -/
namespace Go.Proofs.YtjmdgicdpggljaaGreat.Histo
open Go.RowKit
set_option linter.unusedVariables false

def CountsPost (s : S) (w : World) (e : Ending) (w' : World) : Prop :=
  e = .returned (.slice (some ⟨w.heap.size, 0, none⟩) 240 240) ∧ Blk w' w.heap.size 3 (bc s.bs).toArray ∧ w.grownBy w' none
theorem bc_len {s : S} (ok : Ok s) : (bc s.bs).length = 240 := by unfold bc; rw [List.length_map, ok.len]

theorem info3 : (Tryz.prog.info? 3).map (fun i => (i.zero, i.size, i.bytes)) = some (some (Value.int .i64 0), 1, 8) := by kernel_rfl

end Go.Proofs.YtjmdgicdpggljaaGreat.Histo
