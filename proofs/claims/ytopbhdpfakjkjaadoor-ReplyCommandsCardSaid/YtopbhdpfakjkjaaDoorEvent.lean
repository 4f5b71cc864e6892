/- Proved: what event.Event.Right answers: whether an event can be written. -/
import Derived.Test.YtopbhdpfakjkjaaDoorProg
import Derived.WalkKit
import Derived.WalkLawsBesides
import Derived.WalkSpells
import Derived.Lib.Hide
import Derived.IntWalk
import Derived.Deep.Draws
import Derived.Deep.OwnRows
import Derived.Laws.AppendOwn
import Derived.Laws.Rows
import Derived.RegionTactic
import Derived.ChangeAlike
import Derived.Deep.QuietTactic
import Derived.BigQuiet
import Derived.Test.YtopbhdpfakjkjaaDoorHistoFns
namespace Go.Proofs.YtopbhdpfakjkjaaDoor.Event
open Go.RowKit Go.Proofs.YtopbhdpfakjkjaaDoor.Histo
set_option linter.unusedVariables false

/-- Which numbers an event of a kind has. -/
def offs (k : Int) : Option (List Nat) :=
  if k = 0 then some [] else if k = 1 then some [1, 2, 3, 4] else if k = 2 then some [1, 5, 6, 7, 8, 9] else if k = 3 then some [1, 3] else if 4 ≤ k ∧ k ≤ 9 then some [1] else none
def ptrs (g : Nat) (L : List Nat) : Array Value := (L.map fun o => Value.pointer (some ⟨g, o, none⟩)).toArray
/-- An event's ten numbers. -/
structure Ev where
  k : Int
  n : Int
  limit : Int
  size : Int
  refill : Int
  acct : Int
  mem : Int
  cost : Int
  res : Int
  keep : Int
def Ev.val (e : Ev) : Value := .agg #[.int .i64 e.k, .int .i64 e.n, .int .i64 e.limit, .int .i64 e.size, .int .i64 e.refill, .int .i64 e.acct, .int .i64 e.mem, .int .i64 e.cost, .int .i64 e.res, .int .i64 e.keep]
def Ev.list (e : Ev) : List Int := [e.k, e.n, e.limit, e.size, e.refill, e.acct, e.mem, e.cost, e.res, e.keep]
def inR (x : Int) : Bool := decide (0 ≤ x) && decide (x ≤ 2147483647)
def Ev.at (e : Ev) (o : Nat) : Int := e.list.getD o 0
/-- Can an event be written? -/
def Ev.right (e : Ev) : Bool := match offs e.k with
  | none => false
  | some L => (L.all fun o => inR (e.at o)) && ((List.range 10).all fun o => o == 0 || L.contains o || e.at o == 0)
/-- The numbers of an event that its kind has, as far as these. -/
def bare (e : Ev) (L : List Nat) (i : Nat) (o : Nat) : Int := if o = 0 ∨ o ∈ L.take i then e.at o else 0

def RetB1 (b : Bool) (w : World) (e : Ending) (w' : World) : Prop := e = .returned (.bool b) ∧ Below w.heap.size w w'
theorem RetB1.mk {b b' : Bool} {w w' : World} (h : b' = b) (hw : Below w.heap.size w w') : RetB1 b w (.returned (.bool b')) w' := by subst h; exact ⟨rfl, hw⟩
def bcells (e : Ev) (L : List Nat) (i : Nat) : Array Value := ((List.range 10).map fun o => Value.int .i64 (bare e L i o)).toArray

theorem offs_ok {k : Int} {L : List Nat} (h : offs k = some L) : L.Nodup ∧ ∀ o ∈ L, 0 < o ∧ o < 10 := by
  unfold offs at h
  repeat' split at h
  all_goals first | (injection h with h; subst h; exact ⟨by decide, by decide⟩) | cases h
theorem ptrs_get {g : Nat} {L : List Nat} {i : Nat} (h : i < L.length) : (ptrs g L)[i]? = some (.pointer (some ⟨g, L[i], none⟩)) := by
  unfold ptrs
  rw [List.getElem?_toArray, List.getElem?_map, List.getElem?_eq_getElem h]; rfl
theorem bcells_get {e : Ev} {L : List Nat} {i o : Nat} (h : o < 10) : (bcells e L i)[o]? = some (.int .i64 (bare e L i o)) := by
  unfold bcells
  rw [List.getElem?_toArray, List.getElem?_map, List.getElem?_range h]; rfl
theorem bcells_set {e : Ev} {L : List Nat} {i : Nat} (h : i < L.length) (hl : L[i] < 10) : (bcells e L i).setIfInBounds L[i] (.int .i64 (e.at L[i])) = bcells e L (i + 1) := by
  unfold bcells
  rw [List.setIfInBounds_toArray]
  congr 1
  apply List.ext_getElem?
  intro j
  rw [List.getElem?_set, List.getElem?_map, List.getElem?_map]
  by_cases hj : j < 10
  · rw [List.getElem?_range hj]
    simp only [Option.map_some, List.length_map, List.length_range]
    by_cases he : L[i] = j
    · rw [if_pos he, if_pos (by omega)]
      unfold bare
      rw [if_pos (.inr (by rw [List.take_succ_eq_append_getElem h, he]; simp)), he]
    · rw [if_neg he]
      unfold bare
      rw [List.take_succ_eq_append_getElem h]
      have : (j = 0 ∨ j ∈ L.take i) ↔ (j = 0 ∨ j ∈ L.take i ++ [L[i]]) := by
        rw [List.mem_append, List.mem_singleton]
        constructor
        · rintro (h | h)
          · exact .inl h
          · exact .inr (.inl h)
        · rintro (h | h | h)
          · exact .inl h
          · exact .inr h
          · exact absurd h.symm he
      by_cases hp : j = 0 ∨ j ∈ L.take i
      · rw [if_pos hp, if_pos (this.1 hp)]
      · rw [if_neg hp, if_neg (fun q => hp (this.2 q))]
  · rw [List.getElem?_eq_none (by simp; omega)]
    simp; omega
theorem blk_neq {w : World} {g k : Nat} {t t' : TypeId} {cs cs' : Array Value} (h : Blk w g t cs) (h' : Blk w k t' cs') (hn : t ≠ t') : g ≠ k := by
  intro e
  subst e
  unfold Blk at h h'
  rw [h] at h'
  injection h' with h'
  injection h' with _ h2 _
  exact hn h2
theorem right_no {e : Ev} {L : List Nat} (h : offs e.k = some L) {o : Nat} (ho : o ∈ L) (hn : inR (e.at o) = false) : e.right = false := by
  unfold Ev.right
  rw [h]
  simp only [Bool.and_eq_false_iff]
  left
  rw [List.all_eq_false]
  exact ⟨o, ho, by rw [hn]; decide⟩
theorem right_none {e : Ev} (h : offs e.k = none) : e.right = false := by unfold Ev.right; rw [h]
theorem inR_no {x : Int} (h : x < 0 ∨ 2147483647 < x) : inR x = false := by
  unfold inR
  rcases h with h | h
  · rw [decide_eq_false (by omega)]; rfl
  · rw [decide_eq_false (show ¬ x ≤ 2147483647 by omega), Bool.and_false]
theorem inR_yes {x : Int} (h0 : 0 ≤ x) (h1 : x ≤ 2147483647) : inR x = true := by unfold inR; rw [decide_eq_true h0, decide_eq_true h1]; rfl
/-- At the end it is told by the ten numbers. -/
theorem right_end {e : Ev} {L : List Nat} (h : offs e.k = some L) (hr : ∀ o ∈ L, inR (e.at o) = true) : e.right = (List.range 10).all fun o => bare e L L.length o == e.at o := by
  unfold Ev.right
  rw [h]
  simp only
  rw [List.all_eq_true.2 hr, Bool.true_and]
  refine List.all_congr rfl fun o => ?_ 
  unfold bare
  rw [List.take_of_length_le (Nat.le_refl _)]
  rw [Bool.eq_iff_iff]
  by_cases h1 : o = 0 ∨ o ∈ L
  · rw [if_pos h1]
    simp only [BEq.rfl, iff_true, Bool.or_eq_true, beq_iff_eq, List.contains_iff_mem]
    exact .inl h1
  · rw [if_neg h1]
    simp only [Bool.or_eq_true, beq_iff_eq, List.contains_iff_mem]
    constructor
    · rintro (h2 | h2)
      · exact absurd h2 h1
      · exact h2.symm
    · exact fun h2 => .inr h2.symm
abbrev ecells (k a1 a2 a3 a4 a5 a6 a7 a8 a9 : Int) : Array Value := #[.int .i64 k, .int .i64 a1, .int .i64 a2, .int .i64 a3, .int .i64 a4, .int .i64 a5, .int .i64 a6, .int .i64 a7, .int .i64 a8, .int .i64 a9]

end Go.Proofs.YtopbhdpfakjkjaaDoor.Event
