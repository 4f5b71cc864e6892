/- Proved: what the law's own Model answers (In, Spread, Cut). The condition: its block holds counts that are no less than nought, fewer than 4096 together. -/
import Derived.Test.YtjmdgicdpggljaaGreatM02
import Derived.BigQuiet
import Derived.Deep.RegionWith
import Derived.Maps.AppendAt
set_option linter.all false
namespace Go.Proofs.YtjmdgicdpggljaaGreat.Histo
open Go.RowKit
set_option linter.unusedVariables false

/-- The cells of a model: its bins, how many were too long. -/
def mc (bs : List Int) (o : Int) : Array Value := (bs.map (Value.int .i64) ++ [Value.int .i64 o]).toArray
theorem mc_get {bs : List Int} {o : Int} {i : Nat} (h : i < bs.length) : (mc bs o)[i]? = some (.int .i64 (bs.getD i 0)) := by
  unfold mc
  rw [List.getElem?_toArray, List.getElem?_append_left (by simpa using h), List.getElem?_map, List.getElem?_eq_getElem h, List.getD_eq_getElem?_getD, List.getElem?_eq_getElem h]
  rfl
theorem mc_over {bs : List Int} {o : Int} (h : bs.length = 240) : (mc bs o)[240]? = some (.int .i64 o) := by
  unfold mc
  rw [List.getElem?_toArray, List.getElem?_append_right (by simp [h])]
  simp [h]
theorem mc_set {bs : List Int} {o : Int} {i : Nat} (h : i < bs.length) (x : Int) : (mc bs o).setIfInBounds i (.int .i64 x) = mc (bs.set i x) o := by
  unfold mc
  rw [List.setIfInBounds_toArray, List.set_append_left _ _ (by simpa using h), List.map_set]
theorem mc_set_over {bs : List Int} {o : Int} (h : bs.length = 240) (x : Int) : (mc bs o).setIfInBounds 240 (.int .i64 x) = mc bs x := by
  unfold mc
  rw [List.setIfInBounds_toArray, List.set_append_right _ _ (by simp [h])]
  simp [h]
theorem ps_bd {bs : List Int} (hb : ∀ x ∈ bs, 0 ≤ x ∧ x ≤ 4096) : ∀ k, k ≤ bs.length → 0 ≤ ps bs k ∧ ps bs k ≤ 4096 * k
  | 0, _ => by simp [ps]
  | k + 1, h => by
    have h1 := ps_bd hb k (by omega)
    have h2 := hb _ (getD_mem (show k < bs.length by omega))
    rw [ps_next (by omega)]
    omega

end Go.Proofs.YtjmdgicdpggljaaGreat.Histo

/- Proved: what the law's own Model answers to Cut. The condition: its block holds counts that are no less than nought, fewer than 4096 together; a percentage from 0 to 100. -/
namespace Go.Proofs.YtjmdgicdpggljaaGreat.Histo
open Go.RowKit
set_option linter.unusedVariables false

theorem run_slice240 (g k : Nat) (hk : k < 240) (w : World) : (Instr.sliceAt 168 (.pointer (some ⟨g, 0, none⟩)) none (some (.int .i64 ((k : Int) + 1))) none).run Tryz.prog w = .ok (.slice (some ⟨g, 0, none⟩) (k + 1) 240) w := by
  have hal : Tryz.prog.arrayLen 168 = 240 := by kernel_rfl
  have hel : Tryz.prog.elem 168 = 3 := by kernel_rfl
  have h := run_sliceAt_array_h (P := Tryz.prog) w 168 ⟨g, 0, none⟩ (by rw [hal, hel]; exact Tryz.underlying168) .i64 ((k : Int) + 1) (by omega) (by rw [hal]; omega)
  rw [hal, hel, Tryz.sizeOf3] at h
  rw [h]
  have e : ((k : Int) + 1).toNat = k + 1 := by omega
  simp [slicedAt, Addr.add, e]

end Go.Proofs.YtjmdgicdpggljaaGreat.Histo

/- Proved: what the law's own Model's Add leaves. -/
namespace Go.Proofs.YtjmdgicdpggljaaGreat.Histo
open Go.RowKit
set_option linter.unusedVariables false

end Go.Proofs.YtjmdgicdpggljaaGreat.Histo

/- Proved: what ring.New, Push, Len and List leave and answer: a block of eight numbers and a count reads as the last eight of all numbers that came. -/
namespace Go.Proofs.YtjmdgicdpggljaaGreat.Ring
open Go.RowKit Go.Proofs.YtjmdgicdpggljaaGreat.Histo
set_option linter.unusedVariables false

/-- The last eight. -/
def last8 (l : List Int) : List Int := l.drop (l.length - 8)
/-- A block's eight numbers and count. -/
def rc (xs : List Int) (n : Nat) : Array Value := (xs.map (Value.int .i64) ++ [Value.int .i64 (n : Int)]).toArray
/-- Behind the numbers ts, the eldest first. -/
structure RI (xs : List Int) (n : Nat) (ts : List Int) : Prop where
  len : xs.length = 8
  lt : n < 16
  cnt : min n 8 = min ts.length 8
  at_ : ∀ i, i < min n 8 → xs.getD ((n - 1 - i) % 8) 0 = ts.getD (ts.length - 1 - i) 0
def Rg (w : World) (g : Nat) (ts : List Int) : Prop := ∃ xs n, RI xs n ts ∧ Blk w g 173 (rc xs n)

theorem rc_get {xs : List Int} {n i : Nat} (h : i < xs.length) : (rc xs n)[i]? = some (.int .i64 (xs.getD i 0)) := by
  unfold rc
  rw [List.getElem?_toArray, List.getElem?_append_left (by simpa using h), List.getElem?_map, List.getElem?_eq_getElem h, List.getD_eq_getElem?_getD, List.getElem?_eq_getElem h]
  rfl
theorem rc_n {xs : List Int} {n : Nat} (h : xs.length = 8) : (rc xs n)[8]? = some (.int .i64 (n : Int)) := by
  unfold rc
  rw [List.getElem?_toArray, List.getElem?_append_right (by simp [h])]
  simp [h]
theorem rc_set {xs : List Int} {n i : Nat} (h : i < xs.length) (x : Int) : (rc xs n).setIfInBounds i (.int .i64 x) = rc (xs.set i x) n := by
  unfold rc
  rw [List.setIfInBounds_toArray, List.set_append_left _ _ (by simpa using h), List.map_set]
theorem rc_set_n {xs : List Int} {n : Nat} (h : xs.length = 8) (m : Nat) : (rc xs n).setIfInBounds 8 (.int .i64 (m : Int)) = rc xs m := by
  unfold rc
  rw [List.setIfInBounds_toArray, List.set_append_right _ _ (by simp [h])]
  simp [h]

theorem RI.nil : RI (List.replicate 8 0) 0 [] := ⟨rfl, by omega, rfl, fun i hi => by simp at hi⟩
theorem getD_set (l : List Int) (i j : Nat) (x : Int) (hi : i < l.length) : (l.set i x).getD j 0 = if i = j then x else l.getD j 0 := by
  rw [List.getD_eq_getElem?_getD, List.getElem?_set, List.getD_eq_getElem?_getD]
  by_cases h : i = j
  · subst h; rw [if_pos rfl, if_pos hi, if_pos rfl]; rfl
  · rw [if_neg h, if_neg h]
def nextN (n : Nat) : Nat := if n + 1 = 16 then 8 else n + 1
theorem getD_app (l : List Int) (x : Int) (j : Nat) : (l ++ [x]).getD j 0 = if j = l.length then x else l.getD j 0 := by
  rw [List.getD_eq_getElem?_getD, List.getD_eq_getElem?_getD]
  rcases Nat.lt_trichotomy j l.length with h | h | h
  · rw [List.getElem?_append_left h, if_neg (by omega)]
  · subst h; rw [if_pos rfl]; simp
  · rw [if_neg (by omega), List.getElem?_eq_none (by simp; omega), List.getElem?_eq_none (by omega)]
theorem RI.push {xs : List Int} {n : Nat} {ts : List Int} (h : RI xs n ts) (x : Int) : RI (xs.set (n % 8) x) (nextN n) (ts ++ [x]) := by
  have h1 := h.lt
  have h2 := h.len
  have h3 := h.cnt
  have hn : nextN n < 16 ∧ min (nextN n) 8 = min (n + 1) 8 ∧ nextN n % 8 = (n + 1) % 8 ∧ 1 ≤ nextN n := by unfold nextN; split <;> omega
  refine ⟨by rw [List.length_set]; exact h2, hn.1, by rw [hn.2.1, List.length_append]; simp; omega, fun i hi => ?_⟩
  rw [getD_set _ _ _ _ (by omega), List.length_append]
  simp only [List.length_cons, List.length_nil]
  rw [getD_app]
  by_cases h0 : i = 0
  · subst h0
    rw [if_pos (by omega), if_pos (by omega)]
  · rw [if_neg (by omega), if_neg (by omega)]
    have := h.at_ (i - 1) (by omega)
    rw [show (nextN n - 1 - i) % 8 = (n - 1 - (i - 1)) % 8 by unfold nextN; split <;> omega, this]
    congr 1
    omega
theorem RI.list {xs : List Int} {n : Nat} {ts : List Int} (h : RI xs n ts) : (List.range (min n 8)).map (fun j => xs.getD ((n - min n 8 + j) % 8) 0) = last8 ts := by
  have h3 := h.cnt
  apply List.ext_getElem?
  intro i
  unfold last8
  rw [List.getElem?_drop, List.getElem?_map]
  by_cases hi : i < min n 8
  · rw [List.getElem?_range hi]
    simp only [Option.map_some]
    have := h.at_ (min n 8 - 1 - i) (by omega)
    rw [show n - 1 - (min n 8 - 1 - i) = n - min n 8 + i by omega] at this
    rw [this, List.getD_eq_getElem?_getD, show ts.length - 1 - (min n 8 - 1 - i) = ts.length - 8 + i by omega, List.getElem?_eq_getElem (by omega)]
    rfl
  · rw [List.getElem?_eq_none (by simp; omega), List.getElem?_eq_none (by omega)]
    rfl

theorem Rg.below {B : Nat} {w w' : World} {g : Nat} {ts : List Int} (h : Rg w g ts) (hb : Below B w w') (hg : g < B) : Rg w' g ts := by
  obtain ⟨xs, n, h1, h2⟩ := h
  exact ⟨xs, n, h1, h2.below hb hg⟩
theorem Rg.same {w w' : World} {g : Nat} {ts : List Int} (h : Rg w g ts) (hb : w'.heap[g]? = w.heap[g]?) : Rg w' g ts := by
  obtain ⟨xs, n, h1, h2⟩ := h
  exact ⟨xs, n, h1, hb.trans h2⟩
theorem Rg.lt {w : World} {g : Nat} {ts : List Int} (h : Rg w g ts) : g < w.heap.size := by
  obtain ⟨xs, n, h1, h2⟩ := h
  exact h2.lt

theorem new_any (w : World) : Calls Tryz.prog 49 #[] w fun e w' => e = .returned (.pointer (some ⟨w.heap.size, 0, none⟩)) ∧ w' = w.alloc (.cells (rc (List.replicate 8 0) 0) 173) := by
  go_enter Tryz.func49, Tryz.ntmps49
  go_wp2
  go_ret
  exact ⟨rfl, rfl⟩
theorem new_rg (w : World) : Rg (w.alloc (.cells (rc (List.replicate 8 0) 0) 173)) w.heap.size [] := ⟨_, _, RI.nil, Blk.new _ _ _⟩

/-- What Push leaves. -/
def Pushed (w : World) (g : Nat) (ts : List Int) (x : Int) (e : Ending) (w' : World) : Prop := e = .returned (.tuple #[]) ∧ Rg w' g (ts ++ [x]) ∧ w.grownBy w' (some g)

set_option maxHeartbeats 2000000 in
theorem push_any (g : Nat) (ts : List Int) (x : Int) (w : World) (h : Rg w g ts) : Calls Tryz.prog 103 #[.pointer (some ⟨g, 0, none⟩), .int .i64 x] w (Pushed w g ts x) := by
  obtain ⟨xs, n, hr, hb⟩ := h
  have hl := hr.len
  have hlt := hr.lt
  have hp := hr.push x
  have hb1 := hb.set_ (n % 8) (.int .i64 x)
  rw [rc_set (by rw [hl]; omega)] at hb1
  have hl1 : (xs.set (n % 8) x).length = 8 := by rw [List.length_set]; exact hl
  have c8 : w.cell? ⟨g, 8, none⟩ = some (.int .i64 (n : Int)) := by rw [hb.cell, rc_n hl]
  have f8 := hb.frozen 8
  obtain ⟨j, hj⟩ : ∃ j, j = n % 8 := ⟨_, rfl⟩
  have hj8 : j < 8 := by omega
  have cj : w.cell? ⟨g, j, none⟩ = some (.int .i64 (xs.getD j 0)) := by rw [hb.cell, rc_get (by omega)]
  have fj := hb.frozen j
  have o1 : w.grownBy (w.setCell ⟨g, j, none⟩ (.int .i64 x)) (some g) := only_setCell (only_refl w _) (.inl rfl) _
  rw [← hj] at hb1 hp hl1
  obtain ⟨y, hy⟩ : ∃ y, y = xs.getD j 0 := ⟨_, rfl⟩
  rw [← hy] at cj
  have em : (n : Int) % 8 = (j : Int) := by omega
  have em2 : (n : Int).tmod 8 = (j : Int) := by rw [Int.tmod_eq_emod_of_nonneg (by omega)]; exact em
  have hne : ¬ j = 8 := by omega
  have hb2 := hb1.set_ 8 (.int .i64 (n + 1 : Int))
  have q2 := rc_set_n (n := n) hl1 (n + 1)
  rw [show (((n + 1 : Nat)) : Int) = (n : Int) + 1 by omega] at q2
  rw [q2] at hb2
  have hb3 := hb2.set_ 8 (.int .i64 (8 : Int))
  have q3 := rc_set_n (n := n + 1) hl1 8
  rw [show (((8 : Nat)) : Int) = 8 by omega] at q3
  rw [q3] at hb3
  have HB2 := Lib.hid hb2
  have HB3 := Lib.hid hb3
  have HP := Lib.hid hp
  have O1 := Lib.hid o1
  by_cases h16 : n + 1 = 16
  · obtain rfl : n = 15 := by omega
    obtain rfl : j = 7 := by omega
    clear hb1 hb2 hb3 hp o1 hr hb hl hj hy hl1 q2 q3 em em2
    go_enter Tryz.func103, Tryz.ntmps103
    go_wp2
    go_region
    go_wp2
    go_end0
    exact ⟨rfl, ⟨_, _, HP.out, HB3.out⟩, only_drew (only_setCell (only_setCell O1.out (.inl rfl) _) (.inl rfl) _)⟩
  · have hn : nextN n = n + 1 := by unfold nextN; rw [if_neg h16]
    rw [hn] at HP
    have e16 : ((n : Int) + 1 == 16) = false := beq_eq_false_iff_ne.2 (by omega)
    clear hb1 hb2 hb3 hp o1 hr hb hl hj hy hl1 q2 q3 hn
    go_enter Tryz.func103, Tryz.ntmps103
    go_wp2
    go_region
    go_wp2
    go_end0
    exact ⟨rfl, ⟨_, _, HP.out, HB2.out⟩, only_drew (only_setCell O1.out (.inl rfl) _)⟩

theorem len_any (g : Nat) (xs : List Int) (n : Nat) (w : World) (hl : xs.length = 8) (hb : Blk w g 173 (rc xs n)) : Calls Tryz.prog 161 #[.pointer (some ⟨g, 0, none⟩)] w (RetI (min n 8 : Nat) w) := by
  have c8 : w.cell? ⟨g, 8, none⟩ = some (.int .i64 (n : Int)) := by rw [hb.cell, rc_n hl]
  have em : min (n : Int) 8 = ((min n 8 : Nat) : Int) := by omega
  clear hb
  go_enter Tryz.func161, Tryz.ntmps161
  go_wp2
  go_ret
  exact ⟨rfl, 0, rfl⟩

theorem below_drewN {B : Nat} {a w : World} (h : Below B a w) (n : Nat) : Below B a (w.drewN n) := ⟨h.os, h.tape, h.output, h.size, h.block⟩
theorem vi {a b : Int} (h : a = b) : Value.int .i64 a = .int .i64 b := by rw [h]
theorem info_i64 : (Tryz.prog.info? 2).map (fun i => (i.zero, i.size, i.bytes)) = some (some (.int .i64 0), 1, 8) := by kernel_rfl
/-- A slice that reads as numbers. -/
def Sl (w : World) (v : Value) (xs : List Int) : Prop := ∃ a cap, v = .slice a xs.length cap ∧ xs.length ≤ cap ∧ cap ≤ maxLen ∧ Elems w a xs.length (fun i => xs.getD i 0)
theorem Sl.of_row {w : World} {a : Option Addr} {len cap : Nat} {zs : List Int} (h : IsRow w a len cap zs) : Sl w (.slice a len cap) (zs.take len) := by
  have he := h.elems
  rcases h with ⟨rfl, rfl, rfl, rfl⟩ | ⟨x, rfl, hl, hm, hz, hc, hw⟩
  · exact ⟨none, 0, rfl, Nat.le_refl _, by unfold maxLen; omega, fun k hk => absurd hk (by simp)⟩
  · have hln : (zs.take len).length = len := by rw [List.length_take]; omega
    refine ⟨some x, cap, by rw [hln], by omega, hm, ?_⟩
    rw [hln]
    intro k hk
    obtain ⟨b, off, h1, h2, h3⟩ := he k hk
    refine ⟨b, off, h1, h2, fun j hj => ?_⟩
    rw [h3 j hj]
    simp only [List.getD_eq_getElem?_getD]
    rw [List.getElem?_take_of_lt hj]
theorem Sl.of_own {w : World} {base : Nat} {v : Value} {n : Nat} {xs : List Int} (h : w.ownsRow base 2 1 v n (xs.map (Value.int .i64))) : Sl w v xs := by
  have hc := fun g => h.cells (g := g)
  have hlt := h.lt
  obtain ⟨h1, h2⟩ := h
  simp only [List.length_map, Nat.mul_one] at h1
  subst h1
  rcases h2 with ⟨rfl, h0⟩ | ⟨g, cap, cur, rfl, hg, hb, hn, hm, _, _⟩
  · obtain rfl : xs = [] := List.eq_nil_of_length_eq_zero h0
    exact ⟨none, 0, rfl, Nat.le_refl _, by unfold maxLen; omega, fun k hk => absurd hk (by simp)⟩
  · refine ⟨_, cap, rfl, hn, hm, fun k hk => ⟨g, 0, rfl, (hlt g rfl).2, fun j hj => ?_⟩⟩
    have := hc g rfl j (.int .i64 (xs.getD j 0)) (by rw [List.getElem?_map, List.getD_eq_getElem?_getD, List.getElem?_eq_getElem hj]; rfl)
    rw [Go.WideShapes.add_plain] at this
    exact this
theorem Sl.below {B : Nat} {w w' : World} {v : Value} {xs : List Int} (h : Sl w v xs) (hb : Below B w w') (hB : w.heap.size ≤ B) : Sl w' v xs := by
  obtain ⟨a, cap, h1, h2, h3, h4⟩ := h
  refine ⟨a, cap, h1, h2, h3, fun k hk => ?_⟩
  obtain ⟨b, off, g1, g2, g3⟩ := h4 k hk
  exact ⟨b, off, g1, by have := hb.size; omega, fun j hj => by rw [hb.cell (p := ⟨b, off + j, none⟩) (show b < B by omega)]; exact g3 j hj⟩

/-- A slice that the call made. -/
def Made (P : List Int → Prop) (w : World) (e : Ending) (w' : World) : Prop := ∃ v xs, P xs ∧ e = .returned v ∧ w'.ownsRow w.heap.size 2 1 v xs.length (xs.map (Value.int .i64)) ∧ Below w.heap.size w w'

/-- What List's loop has made. -/
structure LI (w : World) (g : Nat) (xs : List Int) (n k : Nat) (v : Value) (wr : World) : Prop where
  own : wr.ownsRow w.heap.size 2 1 v k (((List.range k).map fun j => xs.getD ((n - min n 8 + j) % 8) 0).map (Value.int .i64))
  below : Below w.heap.size w wr

set_option maxHeartbeats 2000000 in
theorem list_any (g : Nat) (ts : List Int) (w : World) (h : Rg w g ts) : Calls Tryz.prog 136 #[.pointer (some ⟨g, 0, none⟩)] w (Made (· = last8 ts) w) := by
  obtain ⟨xs, n, hr, hb⟩ := h
  have hl := hr.len
  have hlt := hr.lt
  have hg := hb.lt
  have c8 : w.cell? ⟨g, 8, none⟩ = some (.int .i64 (n : Int)) := by rw [hb.cell, rc_n hl]
  obtain ⟨m, hm⟩ : ∃ m, m = min n 8 := ⟨_, rfl⟩
  have hm8 : m ≤ 8 := by omega
  have hmn : m ≤ n := by omega
  have L0 := fun j => len_any g xs n (w.drewN j) hl (hb.drewN j)
  rw [← hm] at L0
  have hlist := hr.list
  rw [← hm] at hlist
  have st0 : LI w g xs n 0 (.slice none 0 0) (w.drewN 0) := ⟨World.ownsRow_nil _ _ _ _, Below.refl _ _⟩
  obtain ⟨i0, hi, hz0, hz1, hz2⟩ := info_parts info_i64
  have HI := Lib.hid hi
  have HZ0 := Lib.hid hz0
  have HZ1 := Lib.hid hz1
  have HZ2 := Lib.hid hz2
  have LL := Lib.hid L0
  have HR := Lib.hid hr
  have HB := Lib.hid hb
  have HLI := Lib.hid hlist
  have HM := Lib.hid hm
  have HL := Lib.hid hl
  have HG := Lib.hid hg
  clear L0 hr hb hlist hm hl st0 hi hz0 hz1 hz2 hg
  go_enter Tryz.func136, Tryz.ntmps136
  go_wp2
  go_quiet ((go_at_call 161; exact Calls.quiet_of (LL.out _)))
  go_wp2
  have S0 := Lib.hid (show LI w g xs n 0 (.slice none 0 0) (w.drewN nq) from ⟨World.ownsRow_nil _ _ _ _, below_drewN (Below.refl _ _) _⟩)
  go_loopw [3, 4] (fun v iv wr => ∃ k : Nat, k ≤ m ∧ iv = .int .i64 ((n : Int) - (m : Int) + (k : Int)) ∧ LI w g xs n k v wr) (fun _ iv _ => n - (intOf iv).toNat)
  case atStart => exact ⟨0, by omega, by simp, S0.out⟩
  case round =>
    obtain ⟨k, hk, rfl, hM⟩ := hrel
    have hbr := HB.out.below hM.below HG.out
    by_cases hlt : k < m
    · have c8r : wr.cell? ⟨g, 8, none⟩ = some (.int .i64 (n : Int)) := by rw [hbr.cell, rc_n HL.out]
      obtain ⟨j, hj⟩ : ∃ j, j = (n - m + k) % 8 := ⟨_, rfl⟩
      have hj8 : j < 8 := by omega
      have cj : wr.cell? ⟨g, j, none⟩ = some (.int .i64 (xs.getD j 0)) := by rw [hbr.cell, rc_get (by rw [HL.out]; omega)]
      obtain ⟨t, ht⟩ : ∃ t, t = n - m + k := ⟨_, rfl⟩
      have hti : (n : Int) - (m : Int) + (k : Int) = (t : Int) := by omega
      rw [← ht] at hj
      rw [hti]
      have ht1 : t < n := by omega
      have em : (t : Int) % 8 = (j : Int) := by omega
      have em2 : (t : Int).tmod 8 = (j : Int) := by rw [Int.tmod_eq_emod_of_nonneg (by omega)]; exact em
      have hsnoc : (((List.range (k + 1)).map fun j => xs.getD ((n - min n 8 + j) % 8) 0).map (Value.int .i64)) = (((List.range k).map fun j => xs.getD ((n - min n 8 + j) % 8) 0).map (Value.int .i64)) ++ [.int .i64 (xs.getD j 0)] := by
        rw [List.range_succ, List.map_append, List.map_append, ← HM.out, hj, ht]; rfl
      obtain ⟨x, hx⟩ : ∃ x, x = xs.getD j 0 := ⟨_, rfl⟩
      rw [← hx] at cj hsnoc
      obtain ⟨acc, hacc⟩ : ∃ a, a = ((List.range k).map fun j => xs.getD ((n - min n 8 + j) % 8) 0).map (Value.int .i64) := ⟨_, rfl⟩
      have hown := hM.own
      have hbel := hM.below
      rw [← hacc] at hsnoc hown
      have hsz := hbel.size
      have HS := Lib.hid hsnoc
      have HO := Lib.hid hown
      have HBW := Lib.hid hbel
      have HT := Lib.hid hti
      have HSZ := Lib.hid hsz
      clear hM hbr hacc hj hx hsnoc hown hbel ht hsz hti
      go_wp2_with (at_builtin; refine wpList_append_own _ rfl _ _ 210 rfl w.heap.size 2 i0 (.int .i64 0) 1 8 Tryz.underlying210 HI.out HZ0.out HZ1.out HZ2.out rfl (by decide) _ k acc rfl (HO.out.alloc _) ⟨wr.heap.size, 0, none⟩ 1 1 [.int .i64 x] rfl rfl ?c1 ?c2 ?c3 ?c4 ?c5 ?_)
      case c1 => exact Go.cell_one_new _ _ _
      case c2 => simp [Value.oneCell']
      case c3 => unfold maxLen; omega
      case c4 => omega
      case c5 => have := HSZ.out; simp; omega
      intro v' w2 hown2 hgrow2 _
      have hN : LI w g xs n (k + 1) v' w2 := by
        refine ⟨by rw [HS.out]; exact hown2, ?_⟩
        refine ((HBW.out.alloc HSZ.out _).grown hgrow2 (by simp; have := HSZ.out; omega) ?_)
        intro q hq
        exact (HO.out.lt q hq).1
      have HN := Lib.hid hN
      clear hN hown2 hgrow2
      go_wp2
      go_roundw
      case rel => exact ⟨k + 1, by omega, vi (by have := HT.out; omega), HN.out⟩
      case measure => simp [intOf]; omega
    · obtain rfl : k = m := by omega
      have c8r : wr.cell? ⟨g, 8, none⟩ = some (.int .i64 (n : Int)) := by rw [hbr.cell, rc_n HL.out]
      have et : (n : Int) - (k : Int) + (k : Int) = (n : Int) := by omega
      rw [et]
      have HM' := Lib.hid hM
      clear hM hbr et
      go_wp2
      go_ret
      refine ⟨_, last8 ts, rfl, rfl, ?_, HM'.out.below⟩
      have := HM'.out.own
      rw [← HM.out, HLI.out] at this
      have hk2 : (last8 ts).length = k := by rw [← HLI.out]; simp
      rw [hk2]
      exact this
end Go.Proofs.YtjmdgicdpggljaaGreat.Ring
