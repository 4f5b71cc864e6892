/- Proved: what event.Event.Right answers: whether an event can be written. -/
import Derived.Test.YtopbhdpfakjkjaaProg
import Derived.WalkKit
import Derived.WalkLawsBesides
import Derived.WalkSpells
import Derived.Lib.Hide
import Derived.IntWalk
import Derived.Deep.Draws
import Derived.Deep.OwnRows
import Derived.Laws.AppendOwn
import Derived.Laws.Rows
import Derived.RegionTactic
import Derived.ChangeAlike
import Derived.Deep.QuietTactic
import Derived.BigQuiet
import Derived.Test.YtopbhdpfakjkjaaHistoFns
namespace Go.Proofs.Ytopbhdpfakjkjaa.Event
open Go.RowKit Go.Proofs.Ytopbhdpfakjkjaa.Histo
set_option linter.unusedVariables false

/-- Which numbers an event of a kind has. -/
def offs (k : Int) : Option (List Nat) :=
  if k = 0 then some [] else if k = 1 then some [1, 2, 3, 4] else if k = 2 then some [1, 5, 6, 7, 8, 9] else if k = 3 then some [1, 3] else if 4 ≤ k ∧ k ≤ 9 then some [1] else none
def ptrs (g : Nat) (L : List Nat) : Array Value := (L.map fun o => Value.pointer (some ⟨g, o, none⟩)).toArray
def Parts (g : Nat) (k : Int) (w : World) (e : Ending) (w' : World) : Prop :=
  (offs k = none ∧ e = .returned (.slice none 0 0) ∧ Below w.heap.size w w') ∨
  ∃ L b, offs k = some L ∧ e = .returned (.slice (some ⟨b, 0, none⟩) L.length L.length) ∧ Blk w' b 100 (ptrs g L) ∧ w.heap.size ≤ b ∧ Below w.heap.size w w'
theorem parts_any (g : Nat) (k : Int) (w : World) (hk : w.cell? ⟨g, 0, none⟩ = some (.int .i64 k)) : Calls Try.prog 56 #[.pointer (some ⟨g, 0, none⟩)] w (Parts g k w) := by
  by_cases h0 : k = 0
  · subst h0
    go_enter Try.func56, Try.ntmps56
    go_wp2
    go_ret
    exact .inr ⟨_, _, rfl, rfl, Blk.new _ _ _, Nat.le_refl _, (Below.refl _ _).alloc (Nat.le_refl _) _⟩
  by_cases h1 : k = 1
  · subst h1
    go_enter Try.func56, Try.ntmps56
    go_wp2
    go_region
    go_wp2
    go_ret
    exact .inr ⟨_, _, rfl, rfl, (Blk.new _ _ _).drew, Nat.le_refl _, ((Below.refl _ _).alloc (Nat.le_refl _) _).drew⟩
  by_cases h2 : k = 2
  · subst h2
    go_enter Try.func56, Try.ntmps56
    go_wp2
    go_region
    go_wp2
    go_ret
    exact .inr ⟨_, _, rfl, rfl, (Blk.new _ _ _).drew, Nat.le_refl _, ((Below.refl _ _).alloc (Nat.le_refl _) _).drew⟩
  by_cases h3 : k = 3
  · subst h3
    go_enter Try.func56, Try.ntmps56
    go_wp2
    go_region
    go_wp2
    go_ret
    exact .inr ⟨_, _, rfl, rfl, (Blk.new _ _ _).drew, Nat.le_refl _, ((Below.refl _ _).alloc (Nat.le_refl _) _).drew⟩
  by_cases h4 : k = 4
  · subst h4
    go_enter Try.func56, Try.ntmps56
    go_wp2
    go_ret
    exact .inr ⟨_, _, rfl, rfl, Blk.new _ _ _, Nat.le_refl _, (Below.refl _ _).alloc (Nat.le_refl _) _⟩
  by_cases h5 : k = 5
  · subst h5
    go_enter Try.func56, Try.ntmps56
    go_wp2
    go_ret
    exact .inr ⟨_, _, rfl, rfl, Blk.new _ _ _, Nat.le_refl _, (Below.refl _ _).alloc (Nat.le_refl _) _⟩
  by_cases h6 : k = 6
  · subst h6
    go_enter Try.func56, Try.ntmps56
    go_wp2
    go_ret
    exact .inr ⟨_, _, rfl, rfl, Blk.new _ _ _, Nat.le_refl _, (Below.refl _ _).alloc (Nat.le_refl _) _⟩
  by_cases h7 : k = 7
  · subst h7
    go_enter Try.func56, Try.ntmps56
    go_wp2
    go_ret
    exact .inr ⟨_, _, rfl, rfl, Blk.new _ _ _, Nat.le_refl _, (Below.refl _ _).alloc (Nat.le_refl _) _⟩
  by_cases h8 : k = 8
  · subst h8
    go_enter Try.func56, Try.ntmps56
    go_wp2
    go_ret
    exact .inr ⟨_, _, rfl, rfl, Blk.new _ _ _, Nat.le_refl _, (Below.refl _ _).alloc (Nat.le_refl _) _⟩
  by_cases h9 : k = 9
  · subst h9
    go_enter Try.func56, Try.ntmps56
    go_wp2
    go_ret
    exact .inr ⟨_, _, rfl, rfl, Blk.new _ _ _, Nat.le_refl _, (Below.refl _ _).alloc (Nat.le_refl _) _⟩
  have ho : offs k = none := by unfold offs; rw [if_neg h0, if_neg h1, if_neg h2, if_neg h3, if_neg (by omega)]
  have e0 : (k == 0) = false := beq_eq_false_iff_ne.2 h0
  have e1 : (k == 1) = false := beq_eq_false_iff_ne.2 h1
  have e2 : (k == 2) = false := beq_eq_false_iff_ne.2 h2
  have e3 : (k == 3) = false := beq_eq_false_iff_ne.2 h3
  have e4 : (k == 4) = false := beq_eq_false_iff_ne.2 h4
  have e5 : (k == 5) = false := beq_eq_false_iff_ne.2 h5
  have e6 : (k == 6) = false := beq_eq_false_iff_ne.2 h6
  have e7 : (k == 7) = false := beq_eq_false_iff_ne.2 h7
  have e8 : (k == 8) = false := beq_eq_false_iff_ne.2 h8
  have e9 : (k == 9) = false := beq_eq_false_iff_ne.2 h9
  have HO := Lib.hid ho
  clear ho
  go_enter Try.func56, Try.ntmps56
  go_wp2
  go_ret
  exact .inl ⟨HO.out, rfl, Below.refl _ _⟩

/-- An event's ten numbers. -/
structure Ev where
  k : Int
  n : Int
  limit : Int
  size : Int
  refill : Int
  acct : Int
  mem : Int
  cost : Int
  res : Int
  keep : Int
def Ev.val (e : Ev) : Value := .agg #[.int .i64 e.k, .int .i64 e.n, .int .i64 e.limit, .int .i64 e.size, .int .i64 e.refill, .int .i64 e.acct, .int .i64 e.mem, .int .i64 e.cost, .int .i64 e.res, .int .i64 e.keep]
def Ev.list (e : Ev) : List Int := [e.k, e.n, e.limit, e.size, e.refill, e.acct, e.mem, e.cost, e.res, e.keep]
def inR (x : Int) : Bool := decide (0 ≤ x) && decide (x ≤ 2147483647)
def Ev.at (e : Ev) (o : Nat) : Int := e.list.getD o 0
/-- Can an event be written? -/
def Ev.right (e : Ev) : Bool := match offs e.k with
  | none => false
  | some L => (L.all fun o => inR (e.at o)) && ((List.range 10).all fun o => o == 0 || L.contains o || e.at o == 0)
/-- The numbers of an event that its kind has, as far as these. -/
def bare (e : Ev) (L : List Nat) (i : Nat) (o : Nat) : Int := if o = 0 ∨ o ∈ L.take i then e.at o else 0

def RetB1 (b : Bool) (w : World) (e : Ending) (w' : World) : Prop := e = .returned (.bool b) ∧ Below w.heap.size w w'
theorem RetB1.mk {b b' : Bool} {w w' : World} (h : b' = b) (hw : Below w.heap.size w w') : RetB1 b w (.returned (.bool b')) w' := by subst h; exact ⟨rfl, hw⟩
def bcells (e : Ev) (L : List Nat) (i : Nat) : Array Value := ((List.range 10).map fun o => Value.int .i64 (bare e L i o)).toArray

theorem offs_ok {k : Int} {L : List Nat} (h : offs k = some L) : L.Nodup ∧ ∀ o ∈ L, 0 < o ∧ o < 10 := by
  unfold offs at h
  repeat' split at h
  all_goals first | (injection h with h; subst h; exact ⟨by decide, by decide⟩) | cases h
theorem ptrs_get {g : Nat} {L : List Nat} {i : Nat} (h : i < L.length) : (ptrs g L)[i]? = some (.pointer (some ⟨g, L[i], none⟩)) := by
  unfold ptrs
  rw [List.getElem?_toArray, List.getElem?_map, List.getElem?_eq_getElem h]; rfl
theorem bcells_get {e : Ev} {L : List Nat} {i o : Nat} (h : o < 10) : (bcells e L i)[o]? = some (.int .i64 (bare e L i o)) := by
  unfold bcells
  rw [List.getElem?_toArray, List.getElem?_map, List.getElem?_range h]; rfl
theorem bcells_set {e : Ev} {L : List Nat} {i : Nat} (h : i < L.length) (hl : L[i] < 10) : (bcells e L i).setIfInBounds L[i] (.int .i64 (e.at L[i])) = bcells e L (i + 1) := by
  unfold bcells
  rw [List.setIfInBounds_toArray]
  congr 1
  apply List.ext_getElem?
  intro j
  rw [List.getElem?_set, List.getElem?_map, List.getElem?_map]
  by_cases hj : j < 10
  · rw [List.getElem?_range hj]
    simp only [Option.map_some, List.length_map, List.length_range]
    by_cases he : L[i] = j
    · rw [if_pos he, if_pos (by omega)]
      unfold bare
      rw [if_pos (.inr (by rw [List.take_succ_eq_append_getElem h, he]; simp)), he]
    · rw [if_neg he]
      unfold bare
      rw [List.take_succ_eq_append_getElem h]
      have : (j = 0 ∨ j ∈ L.take i) ↔ (j = 0 ∨ j ∈ L.take i ++ [L[i]]) := by
        rw [List.mem_append, List.mem_singleton]
        constructor
        · rintro (h | h)
          · exact .inl h
          · exact .inr (.inl h)
        · rintro (h | h | h)
          · exact .inl h
          · exact .inr h
          · exact absurd h.symm he
      by_cases hp : j = 0 ∨ j ∈ L.take i
      · rw [if_pos hp, if_pos (this.1 hp)]
      · rw [if_neg hp, if_neg (fun q => hp (this.2 q))]
  · rw [List.getElem?_eq_none (by simp; omega)]
    simp; omega
theorem blk_neq {w : World} {g k : Nat} {t t' : TypeId} {cs cs' : Array Value} (h : Blk w g t cs) (h' : Blk w k t' cs') (hn : t ≠ t') : g ≠ k := by
  intro e
  subst e
  unfold Blk at h h'
  rw [h] at h'
  injection h' with h'
  injection h' with _ h2 _
  exact hn h2
/-- The loop of Right. -/
structure EvL (w : World) (e : Ev) (L : List Nat) (g b g2 b2 i : Nat) (wr : World) : Prop where
  ha : Blk wr g 47 (e.list.map (Value.int .i64)).toArray
  hb : Blk wr b 100 (ptrs g L)
  hc : Blk wr g2 47 (bcells e L i)
  hd : Blk wr b2 100 (ptrs g2 L)
  rng : ∀ o ∈ L.take i, inR (e.at o) = true
  below : Below w.heap.size w wr
  ng : w.heap.size ≤ g2
  ne : g ≠ g2
theorem EvL.drew {w : World} {e : Ev} {L : List Nat} {g b g2 b2 i : Nat} {wr : World} (h : EvL w e L g b g2 b2 i wr) : EvL w e L g b g2 b2 i wr.drew := ⟨h.ha, h.hb, h.hc, h.hd, h.rng, h.below.drew, h.ng, h.ne⟩
theorem ecell {w : World} {g : Nat} {e : Ev} (h : Blk w g 47 (e.list.map (Value.int .i64)).toArray) {o : Nat} (ho : o < 10) : w.cell? ⟨g, o, none⟩ = some (.int .i64 (e.at o)) := by
  rw [h.cell, List.getElem?_toArray, List.getElem?_map]
  have hl : e.list.length = 10 := rfl
  unfold Ev.at
  rw [List.getD_eq_getElem?_getD, List.getElem?_eq_getElem (by omega)]; rfl
theorem right_no {e : Ev} {L : List Nat} (h : offs e.k = some L) {o : Nat} (ho : o ∈ L) (hn : inR (e.at o) = false) : e.right = false := by
  unfold Ev.right
  rw [h]
  simp only [Bool.and_eq_false_iff]
  left
  rw [List.all_eq_false]
  exact ⟨o, ho, by rw [hn]; decide⟩
theorem right_none {e : Ev} (h : offs e.k = none) : e.right = false := by unfold Ev.right; rw [h]
theorem inR_no {x : Int} (h : x < 0 ∨ 2147483647 < x) : inR x = false := by
  unfold inR
  rcases h with h | h
  · rw [decide_eq_false (by omega)]; rfl
  · rw [decide_eq_false (show ¬ x ≤ 2147483647 by omega), Bool.and_false]
theorem inR_yes {x : Int} (h0 : 0 ≤ x) (h1 : x ≤ 2147483647) : inR x = true := by unfold inR; rw [decide_eq_true h0, decide_eq_true h1]; rfl
/-- At the end it is told by the ten numbers. -/
theorem right_end {e : Ev} {L : List Nat} (h : offs e.k = some L) (hr : ∀ o ∈ L, inR (e.at o) = true) : e.right = (List.range 10).all fun o => bare e L L.length o == e.at o := by
  unfold Ev.right
  rw [h]
  simp only
  rw [List.all_eq_true.2 hr, Bool.true_and]
  refine List.all_congr rfl fun o => ?_ 
  unfold bare
  rw [List.take_of_length_le (Nat.le_refl _)]
  rw [Bool.eq_iff_iff]
  by_cases h1 : o = 0 ∨ o ∈ L
  · rw [if_pos h1]
    simp only [BEq.rfl, iff_true, Bool.or_eq_true, beq_iff_eq, List.contains_iff_mem]
    exact .inl h1
  · rw [if_neg h1]
    simp only [Bool.or_eq_true, beq_iff_eq, List.contains_iff_mem]
    constructor
    · rintro (h2 | h2)
      · exact absurd h2 h1
      · exact h2.symm
    · exact fun h2 => .inr h2.symm
abbrev ecells (k a1 a2 a3 a4 a5 a6 a7 a8 a9 : Int) : Array Value := #[.int .i64 k, .int .i64 a1, .int .i64 a2, .int .i64 a3, .int .i64 a4, .int .i64 a5, .int .i64 a6, .int .i64 a7, .int .i64 a8, .int .i64 a9]

set_option maxHeartbeats 4000000 in
set_option maxRecDepth 100000 in
theorem right_any (e : Ev) (w : World) : Calls Try.prog 44 #[e.val] w (RetB1 e.right w) := by
  obtain ⟨k, a1, a2, a3, a4, a5, a6, a7, a8, a9⟩ := e
  unfold Ev.val
  simp only
  have RN := Lib.hid (fun (L : List Nat) => @right_no ⟨k, a1, a2, a3, a4, a5, a6, a7, a8, a9⟩ L)
  have RE := Lib.hid (fun (L : List Nat) => @right_end ⟨k, a1, a2, a3, a4, a5, a6, a7, a8, a9⟩ L)
  have R0 := Lib.hid (@right_none ⟨k, a1, a2, a3, a4, a5, a6, a7, a8, a9⟩)
  obtain ⟨E, hE⟩ : ∃ E : Ev, E = ⟨k, a1, a2, a3, a4, a5, a6, a7, a8, a9⟩ := ⟨_, rfl⟩
  rw [← hE] at RN RE R0 ⊢
  have HE := Lib.hid hE
  clear hE
  go_enter Try.func44, Try.ntmps44
  go_wp2_with fail
  generalize hW : w.alloc _ = W
  have bW : Below w.heap.size w W := by rw [← hW]; exact (Below.refl _ _).alloc (Nat.le_refl _) _
  have hB : Blk W w.heap.size 47 (ecells k a1 a2 a3 a4 a5 a6 a7 a8 a9) := by rw [← hW]; exact Blk.new _ _ _
  obtain ⟨g, hg⟩ : ∃ g, g = w.heap.size := ⟨_, rfl⟩
  rw [← hg] at hB bW ⊢
  have ck := hB.cell 0
  have P1 := Lib.hid (parts_any g k W ck)
  have HB := Lib.hid hB
  have HBW := Lib.hid bW
  have HGW := Lib.hid hg
  clear hW hB bW hg ck
  refine (P1.out).mono ?_
  intro e1 w1 h1
  have P2 := fun (w2 : World) (h : Below g W w2) => (HB.out).lt
  rcases h1 with ⟨ho, rfl, hb1⟩ | ⟨L, b, ho, rfl, hL, hb, hb1⟩
  · have hB1 := HB.out.below hb1 HB.out.lt
    have ck : w1.cell? ⟨g, 0, none⟩ = some (.int .i64 k) := hB1.cell 0
    have HO := Lib.hid ho
    have HB1 := Lib.hid hb1
    clear ho hb1 hB1 P2
    go_wp2_with fail
    generalize hW1 : w1.alloc _ = W1
    have bW1 : Below w1.heap.size w1 W1 := by rw [← hW1]; exact (Below.refl _ _).alloc (Nat.le_refl _) _
    have cW1 : W1.cell? ⟨w1.heap.size, 0, none⟩ = some (.int .i64 k) := by rw [← hW1]; exact (Blk.new _ _ _).cell 0
    obtain ⟨g2, hg2⟩ : ∃ g, g = w1.heap.size := ⟨_, rfl⟩
    rw [← hg2] at cW1 ⊢
    have Q := Lib.hid (parts_any g2 k W1 cW1)
    have HBW1 := Lib.hid bW1
    clear hW1 bW1 cW1 hg2 ck
    refine (Q.out).mono ?_
    intro e2 w2 h2
    rcases h2 with ⟨ho2, rfl, hb2⟩ | ⟨L, b, ho2, rfl, hL, hb, hb2⟩
    · have HB2 := Lib.hid hb2
      clear hb2 ho2
      go_wp2
      go_loop [15] (fun iv => iv = .int .i64 0) (fun _ => 0)
      case atStart => rfl
      case round =>
      obtain rfl := hrel
      go_wp2
      have hbl : Below w.heap.size w w2 := by
        have h1 := HBW.out.trans (HB1.out.mono (by have := HBW.out.size; have := HGW.out; omega))
        have h2 := h1.trans (HBW1.out.mono (by have := h1.size; have := HGW.out; omega))
        exact h2.trans (HB2.out.mono (by have := h2.size; have := HGW.out; omega)) |>.mono (by have := HGW.out; omega)
      go_ret
      exact RetB1.mk (R0.out (by rw [HE.out]; exact HO.out)).symm hbl
    · exfalso; rw [HO.out] at ho2; cases ho2
  · have hB1 := HB.out.below hb1 HB.out.lt
    have ck : w1.cell? ⟨g, 0, none⟩ = some (.int .i64 k) := hB1.cell 0
    have HO := Lib.hid ho
    have HB1 := Lib.hid hb1
    have HBB1 := Lib.hid hB1
    have HL := Lib.hid hL
    have HNB := Lib.hid hb
    clear ho hb1 hB1 hL hb P2
    go_wp2_with fail
    generalize hW1 : w1.alloc _ = W1
    have bW1 : Below w1.heap.size w1 W1 := by rw [← hW1]; exact (Below.refl _ _).alloc (Nat.le_refl _) _
    have cW1 : Blk W1 w1.heap.size 47 (ecells k 0 0 0 0 0 0 0 0 0) := by rw [← hW1]; exact Blk.new _ _ _
    obtain ⟨g2, hg2⟩ : ∃ g, g = w1.heap.size := ⟨_, rfl⟩
    rw [← hg2] at cW1 ⊢
    have Q := Lib.hid (parts_any g2 k W1 (cW1.cell 0))
    have HBW1 := Lib.hid bW1
    have HC1 := Lib.hid cW1
    have HG2 := Lib.hid hg2
    clear hW1 bW1 cW1 hg2 ck
    refine (Q.out).mono ?_
    intro e2 w2 h2
    rcases h2 with ⟨ho2, rfl, hb2⟩ | ⟨L2, b2, ho2, rfl, hL2, hnb2, hb2⟩
    · exfalso; rw [HO.out] at ho2; cases ho2
    rw [HO.out] at ho2
    injection ho2 with ho2
    subst ho2
    have st : EvL w E L g b g2 b2 0 w2 := by
      have x1 := HBW.out
      have x2 := HB1.out
      have x3 := HBW1.out
      have s1 := x1.size
      have s2 := x2.size
      have s3 := x3.size
      have hg := HGW.out
      have hg2 := HG2.out
      have lg := HB.out.lt
      have lb := HL.out.lt
      have y1 := x1.trans (x2.mono (by omega))
      have y2 := y1.trans (x3.mono (by omega))
      have y3 := y2.trans (hb2.mono (by omega))
      refine ⟨?_, ?_, ?_, hL2, fun o ho => by simp at ho, y3.mono (by omega), by omega, by omega⟩
      · rw [HE.out]; exact ((HBB1.out.below x3 (by omega)).below hb2 (by omega))
      · exact (HL.out.below x3 lb).below hb2 (by omega)
      · have := HC1.out.below hb2 HC1.out.lt
        have e0 : bcells E L 0 = ecells k 0 0 0 0 0 0 0 0 0 := by rw [HE.out]; rfl
        rw [e0]; exact this
    have ST := Lib.hid st
    have OK := Lib.hid (offs_ok HO.out)
    have HOE := Lib.hid (show offs E.k = some L by rw [HE.out]; exact HO.out)
    obtain ⟨n, hn⟩ : ∃ n, n = L.length := ⟨_, rfl⟩
    have hn10 : n ≤ 10 := by
      have : ∀ k L, offs k = some L → L.length ≤ 10 := fun k L h => by
        unfold offs at h
        repeat' split at h
        all_goals first | (injection h with h; subst h; decide) | cases h
      rw [hn]; exact this _ _ HO.out
    rw [← hn]
    have HN := Lib.hid hn
    clear st hL2 hnb2 hb2 hn
    go_wp2_with fail
    go_loopw [15] (fun iv wr => ∃ i : Nat, i ≤ n ∧ iv = .int .i64 i ∧ EvL w E L g b g2 b2 i wr) (fun iv _ => n - (intOf iv).toNat)
    case atStart => exact ⟨0, by omega, rfl, ST.out⟩
    case round =>
      obtain ⟨i, hi, rfl, hM⟩ := hrel
      by_cases hlt : i < n
      · have hil : i < L.length := by rw [← HN.out]; exact hlt
        obtain ⟨o, ho⟩ : ∃ o, o = L[i] := ⟨_, rfl⟩
        have hom : o ∈ L := by rw [ho]; exact List.getElem_mem hil
        have ho10 := (OK.out.2 o hom)
        have cb := hM.hb.cell i
        rw [ptrs_get hil, ← ho] at cb
        have ce := ecell hM.ha ho10.2
        have cb2 := hM.hd.cell i
        rw [ptrs_get hil, ← ho] at cb2
        have cg2 : wr.cell? ⟨g2, o, none⟩ = some (.int .i64 (bare E L i o)) := by rw [hM.hc.cell, bcells_get ho10.2]
        have fg2 := hM.hc.frozen o
        have hne := hM.ne
        have HOM := Lib.hid hom
        have HAT : ∃ v, v = E.at o := ⟨_, rfl⟩
        obtain ⟨v, hv⟩ := HAT
        rw [← hv] at ce
        by_cases t1 : v < 0
        · have d1 : decide (v < 0) = true := decide_eq_true t1
          have HR := Lib.hid (RN.out L HOE.out hom (by rw [← hv]; exact inR_no (.inl t1)))
          have HM := Lib.hid hM
          clear hM hv ho hom ho10
          go_wp2
          go_ret
          exact RetB1.mk HR.out.symm HM.out.below
        · have d1 : decide (v < 0) = false := decide_eq_false t1
          by_cases t2 : 2147483647 < v
          · have d2 : decide (2147483647 < v) = true := decide_eq_true t2
            have HR := Lib.hid (RN.out L HOE.out hom (by rw [← hv]; exact inR_no (.inr t2)))
            have HM := Lib.hid hM
            clear hM hv ho hom ho10
            go_wp2
            go_ret
            exact RetB1.mk HR.out.symm HM.out.below
          · have d2 : decide (2147483647 < v) = false := decide_eq_false t2
            have hnext : EvL w E L g b g2 b2 (i + 1) (wr.setCell ⟨g2, o, none⟩ (.int .i64 v)) := by
              have b1 := hM.hc.set_ o (.int .i64 v)
              rw [hv, ho, bcells_set hil (by rw [← ho]; exact ho10.2)] at b1
              refine ⟨hM.ha.far hM.ne _, hM.hb.far (blk_neq hM.hb hM.hc (by decide)) _, ?_, hM.hd.far (blk_neq hM.hd hM.hc (by decide)) _, ?_, hM.below.setCell hM.ng _, hM.ng, hM.ne⟩
              · rw [hv, ho]; exact b1
              · intro o' ho'
                rw [List.take_succ_eq_append_getElem hil, List.mem_append, List.mem_singleton] at ho'
                rcases ho' with ho' | ho'
                · exact hM.rng o' ho'
                · rw [ho', ← ho, ← hv]; exact inR_yes (by omega) (by omega)
            have HX := Lib.hid hnext
            clear hM hv ho hom hnext ho10 hil
            go_wp2
            go_region
            go_wp2
            go_roundw
            case rel => exact ⟨i + 1, by omega, by go_num, HX.out.drew⟩
            case measure => simp [intOf]; omega
      · obtain rfl : n = i := by omega
        have hr : ∀ o ∈ L, inR (E.at o) = true := fun o ho => hM.rng o (by rw [List.take_of_length_le (by rw [HN.out]; exact Nat.le_refl _)]; exact ho)
        have hend := RE.out L HOE.out hr
        rw [← HN.out] at hend
        have hend2 : E.right = (bare E L n 0 == E.at 0 && (bare E L n 1 == E.at 1 && (bare E L n 2 == E.at 2 && (bare E L n 3 == E.at 3 && (bare E L n 4 == E.at 4 && (bare E L n 5 == E.at 5 && (bare E L n 6 == E.at 6 && (bare E L n 7 == E.at 7 && (bare E L n 8 == E.at 8 && (bare E L n 9 == E.at 9 && true)))))))))) := hend
        clear hend
        have C : ∀ o, o < 10 → wr.cell? ⟨g2, o, none⟩ = some (.int .i64 (bare E L n o)) := fun o ho => by rw [hM.hc.cell]; exact bcells_get ho
        have D : ∀ o, o < 10 → wr.cell? ⟨g, o, none⟩ = some (.int .i64 (E.at o)) := fun o ho => ecell hM.ha ho
        have cb0 := C 0 (by omega)
        have ce0 := D 0 (by omega)
        have cb1 := C 1 (by omega)
        have ce1 := D 1 (by omega)
        have cb2 := C 2 (by omega)
        have ce2 := D 2 (by omega)
        have cb3 := C 3 (by omega)
        have ce3 := D 3 (by omega)
        have cb4 := C 4 (by omega)
        have ce4 := D 4 (by omega)
        have cb5 := C 5 (by omega)
        have ce5 := D 5 (by omega)
        have cb6 := C 6 (by omega)
        have ce6 := D 6 (by omega)
        have cb7 := C 7 (by omega)
        have ce7 := D 7 (by omega)
        have cb8 := C 8 (by omega)
        have ce8 := D 8 (by omega)
        have cb9 := C 9 (by omega)
        have ce9 := D 9 (by omega)
        generalize hx0 : bare E L n 0 = x0 at *
        generalize hy0 : E.at 0 = y0 at *
        generalize hx1 : bare E L n 1 = x1 at *
        generalize hy1 : E.at 1 = y1 at *
        generalize hx2 : bare E L n 2 = x2 at *
        generalize hy2 : E.at 2 = y2 at *
        generalize hx3 : bare E L n 3 = x3 at *
        generalize hy3 : E.at 3 = y3 at *
        generalize hx4 : bare E L n 4 = x4 at *
        generalize hy4 : E.at 4 = y4 at *
        generalize hx5 : bare E L n 5 = x5 at *
        generalize hy5 : E.at 5 = y5 at *
        generalize hx6 : bare E L n 6 = x6 at *
        generalize hy6 : E.at 6 = y6 at *
        generalize hx7 : bare E L n 7 = x7 at *
        generalize hy7 : E.at 7 = y7 at *
        generalize hx8 : bare E L n 8 = x8 at *
        generalize hy8 : E.at 8 = y8 at *
        generalize hx9 : bare E L n 9 = x9 at *
        generalize hy9 : E.at 9 = y9 at *
        have HEND := Lib.hid hend2
        have HM := Lib.hid hM
        clear hM hr hend2 C D hx0 hy0 hx1 hy1 hx2 hy2 hx3 hy3 hx4 hy4 hx5 hy5 hx6 hy6 hx7 hy7 hx8 hy8 hx9 hy9
        go_wp2
        all_goals
          go_ret
          exact RetB1.mk (by rw [HEND.out]; simp [*]) HM.out.below
end Go.Proofs.Ytopbhdpfakjkjaa.Event
