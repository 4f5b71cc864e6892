/- Proved: the head of greenhouselaw19's laws. -/
import Derived.Test.YtopbhdpfakjkjaaAudFirst
namespace Go.Proofs.Ytopbhdpfakjkjaa.Aud
open Go.RowKit Go.Proofs.Ytopbhdpfakjkjaa.Histo Go.Proofs.Ytopbhdpfakjkjaa.Event Go.Proofs.Ytopbhdpfakjkjaa.Ring
set_option linter.unusedVariables false
open Go.Proofs.Ytopbhdpfakjkjaa.MapI (AL At Rng W64 At.alloc At.drew)

/-- A step's cells, with the place of its commands. -/
abbrev SV := Stp × Option Addr × Nat
def SV.list (p : SV) : List Value := (scells p.1.ev p.1.ans (.slice p.2.1 p.1.cmds.length p.2.2)).toList
def lay (ps : List SV) : List Value := ps.flatMap SV.list
theorem SV.len (p : SV) : p.list.length = 15 := rfl
theorem lay_get (ps : List SV) : ∀ (i k : Nat) (p : SV), ps[i]? = some p → k < 15 → (lay ps)[i * 15 + k]? = p.list[k]? := by
  induction ps with
  | nil => intro i k p h; cases h
  | cons q r ih =>
    intro i k p h hk
    unfold lay at ih ⊢
    rw [List.flatMap_cons]
    cases i with
    | zero =>
      injection h with h; subst h
      rw [List.getElem?_append_left (by rw [SV.len]; omega), Nat.zero_mul, Nat.zero_add]
    | succ i =>
      rw [List.getElem?_append_right (by rw [SV.len]; omega), SV.len, ← ih i k p h hk]
      congr 1
      omega
theorem lay_len (ps : List SV) : (lay ps).length = ps.length * 15 := by
  induction ps with
  | nil => rfl
  | cons q r ih => unfold lay at ih ⊢; rw [List.flatMap_cons, List.length_append, ih, SV.len, List.length_cons]; omega
/-- Cells that hold steps. -/
theorem stps_of {F : Nat → Prop} {w : World} {b : Nat} {ps : List SV} (hb : b < w.heap.size) (hF : ¬ F b) (hc : ∀ o v, (lay ps)[o]? = some v → w.cell? ⟨b, o, none⟩ = some v)
    (hs : ∀ p ∈ ps, p.1.cmds.length ≤ 40 ∧ Cmds F w p.2.1 p.1.cmds) : Stps F w (some ⟨b, 0, none⟩) (ps.map (·.1)) := by
  intro i x hx
  rw [List.getElem?_map, Option.map_eq_some_iff] at hx
  obtain ⟨p, hp, rfl⟩ := hx
  have hm := List.mem_of_getElem? hp
  have g : ∀ k v, p.list[k]? = some v → k < 15 → w.cell? ⟨b, 0 + i * 15 + k, none⟩ = some v := fun k v hv hk => hc _ v (by rw [Nat.zero_add, lay_get ps i k p hp hk]; exact hv)
  refine ⟨b, 0, p.2.1, p.2.2, rfl, hb, hF, (hs p hm).1, (hs p hm).2, ?_⟩
  exact ⟨g 0 _ rfl (by decide), g 1 _ rfl (by decide), g 2 _ rfl (by decide), g 3 _ rfl (by decide), g 4 _ rfl (by decide), g 5 _ rfl (by decide), g 6 _ rfl (by decide), g 7 _ rfl (by decide), g 8 _ rfl (by decide), g 9 _ rfl (by decide), g 10 _ rfl (by decide), g 11 _ rfl (by decide), g 12 _ rfl (by decide), g 13 _ rfl (by decide), g 14 _ rfl (by decide)⟩
theorem stps_blk {F : Nat → Prop} {w : World} {b : Nat} {t : TypeId} {ps : List SV} (h : Blk w b t (lay ps).toArray) (hF : ¬ F b) (hs : ∀ p ∈ ps, p.1.cmds.length ≤ 40 ∧ Cmds F w p.2.1 p.1.cmds) : Stps F w (some ⟨b, 0, none⟩) (ps.map (·.1)) :=
  stps_of h.lt hF (fun o v hv => by rw [h.cell o, List.getElem?_toArray]; exact hv) hs

def refusedS : Stp := ⟨⟨9, 3, 0, 0, 0, 0, 0, 0, 0, 0⟩, ⟨1, 0, 0, 2⟩, []⟩
def doneS : Stp := ⟨⟨9, 3, 0, 0, 0, 0, 0, 0, 0, 0⟩, ⟨0, 0, 0, 0⟩, []⟩
theorem head_first2 : firstP [refusedS, doneS] = 1 := by rfl
theorem head_first1 : firstP [refusedS] = -1 := by rfl
theorem call_steps (ps : List SV) (b cap : Nat) (t : TypeId) (w : World) (n : Nat) (x : Int) (h : Blk w b t (lay ps).toArray) (hs : ∀ p ∈ ps, p.1.cmds.length ≤ 40 ∧ Cmds (w.heap.size ≤ ·) w p.2.1 p.1.cmds) (hn : ps.length = n) (hl : n ≤ 2000) (hx : firstP (ps.map (·.1)) = x) : Calls Try.prog 23 #[.slice (some ⟨b, 0, none⟩) n cap] w (RetN x w) := by
  have hlen : (ps.map (·.1)).length = n := by rw [List.length_map]; exact hn
  have := first_any (ps.map (·.1)) (some ⟨b, 0, none⟩) cap w (stps_blk h (Nat.not_le.2 h.lt) hs) (by omega)
  rw [hlen, hx] at this
  exact this
theorem no_cmds {F : Nat → Prop} {w : World} {ps : List SV} (h : ∀ p ∈ ps, p.1.cmds = []) : ∀ p ∈ ps, p.1.cmds.length ≤ 40 ∧ Cmds F w p.2.1 p.1.cmds := fun p hp => by rw [h p hp]; exact ⟨by decide, fun i c hc => by cases hc⟩

theorem two_none : ∀ p ∈ ([(refusedS, none, 0), (doneS, none, 0)] : List SV), p.1.cmds = [] := by
  intro p hp
  rcases List.mem_cons.1 hp with rfl | hp
  · rfl
  · rw [List.mem_singleton] at hp; subst hp; rfl
theorem one_none : ∀ p ∈ ([(refusedS, none, 0)] : List SV), p.1.cmds = [] := by
  intro p hp
  rw [List.mem_singleton] at hp; subst hp; rfl
def headW (w : World) : World := ((w.alloc (.cells #[.int .i64 9, .int .i64 3, .int .i64 0, .int .i64 0, .int .i64 0, .int .i64 0, .int .i64 0, .int .i64 0, .int .i64 0, .int .i64 0, .int .i64 0, .int .i64 0, .int .i64 0, .int .i64 0, .slice none 0 0] 55)).alloc (.cells #[.int .i64 9, .int .i64 3, .int .i64 0, .int .i64 0, .int .i64 0, .int .i64 0, .int .i64 0, .int .i64 0, .int .i64 0, .int .i64 0, .int .i64 1, .int .i64 0, .int .i64 0, .int .i64 2, .slice none 0 0] 55)).alloc (.cells #[.int .i64 9, .int .i64 3, .int .i64 0, .int .i64 0, .int .i64 0, .int .i64 0, .int .i64 0, .int .i64 0, .int .i64 0, .int .i64 0, .int .i64 1, .int .i64 0, .int .i64 0, .int .i64 2, .slice none 0 0, .int .i64 9, .int .i64 3, .int .i64 0, .int .i64 0, .int .i64 0, .int .i64 0, .int .i64 0, .int .i64 0, .int .i64 0, .int .i64 0, .int .i64 0, .int .i64 0, .int .i64 0, .int .i64 0, .slice none 0 0] 55)
theorem head_world (w : World) : Below w.heap.size w (headW w) ∧ Blk (headW w) (w.heap.size + 1) 55 (lay [(refusedS, none, 0)]).toArray ∧ Blk (headW w) (w.heap.size + 1 + 1) 55 (lay [(refusedS, none, 0), (doneS, none, 0)]).toArray := by
  have sz : ∀ (v : World) (o : Obj), (v.alloc o).heap.size = v.heap.size + 1 := fun v o => Array.size_push ..
  have hb : ∀ (v : World) (o : Obj), Below v.heap.size v (v.alloc o) := fun v o => (Below.refl _ _).alloc (Nat.le_refl _) o
  unfold headW
  refine ⟨(((Below.refl _ _).alloc (Nat.le_refl _) _).alloc (by rw [sz]; omega) _).alloc (by rw [sz, sz]; omega) _, ?_, ?_⟩
  · have h := Blk.new (w.alloc (.cells #[.int .i64 9, .int .i64 3, .int .i64 0, .int .i64 0, .int .i64 0, .int .i64 0, .int .i64 0, .int .i64 0, .int .i64 0, .int .i64 0, .int .i64 0, .int .i64 0, .int .i64 0, .int .i64 0, .slice none 0 0] 55)) 55 (lay [(refusedS, none, 0)]).toArray
    rw [sz] at h
    exact h.below (hb _ _) h.lt
  · have h := Blk.new ((w.alloc (.cells #[.int .i64 9, .int .i64 3, .int .i64 0, .int .i64 0, .int .i64 0, .int .i64 0, .int .i64 0, .int .i64 0, .int .i64 0, .int .i64 0, .int .i64 0, .int .i64 0, .int .i64 0, .int .i64 0, .slice none 0 0] 55)).alloc (.cells #[.int .i64 9, .int .i64 3, .int .i64 0, .int .i64 0, .int .i64 0, .int .i64 0, .int .i64 0, .int .i64 0, .int .i64 0, .int .i64 0, .int .i64 1, .int .i64 0, .int .i64 0, .int .i64 2, .slice none 0 0] 55)) 55 (lay [(refusedS, none, 0), (doneS, none, 0)]).toArray
    rw [sz, sz] at h
    exact h
set_option maxHeartbeats 4000000 in
set_option maxRecDepth 100000 in
theorem head_any (w : World) : Calls Try.prog 22 #[] w (RetB1 true w) := by
  go_enter Try.func22, Try.ntmps22
  go_wp2_with fail
  obtain ⟨hB, hC1, hC⟩ := head_world w
  revert hB hC1 hC
  unfold headW
  generalize ((w.alloc _).alloc _).alloc _ = W
  generalize w.heap.size + 1 + 1 = g2
  generalize hg1 : w.heap.size + 1 = g1
  intro hB hC1 hC
  refine (call_steps [(refusedS, none, 0), (doneS, none, 0)] g2 2 _ W 2 1 hC (no_cmds two_none) rfl (by omega) head_first2).mono ?_
  rintro e1 w2 ⟨rfl, hb2⟩
  have hC2 := hC1.below hb2 hC1.lt
  have HB := Lib.hid (hB.trans (hb2.mono hB.size))
  clear hB hb2 hC hC1 hg1
  have HC := Lib.hid hC2
  clear hC2
  have cc0 : w2.cell? ⟨g1, 0, none⟩ = some (.int .i64 9) := HC.out.cell 0
  have cc1 : w2.cell? ⟨g1, 1, none⟩ = some (.int .i64 3) := HC.out.cell 1
  have cc2 : w2.cell? ⟨g1, 2, none⟩ = some (.int .i64 0) := HC.out.cell 2
  have cc3 : w2.cell? ⟨g1, 3, none⟩ = some (.int .i64 0) := HC.out.cell 3
  have cc4 : w2.cell? ⟨g1, 4, none⟩ = some (.int .i64 0) := HC.out.cell 4
  have cc5 : w2.cell? ⟨g1, 5, none⟩ = some (.int .i64 0) := HC.out.cell 5
  have cc6 : w2.cell? ⟨g1, 6, none⟩ = some (.int .i64 0) := HC.out.cell 6
  have cc7 : w2.cell? ⟨g1, 7, none⟩ = some (.int .i64 0) := HC.out.cell 7
  have cc8 : w2.cell? ⟨g1, 8, none⟩ = some (.int .i64 0) := HC.out.cell 8
  have cc9 : w2.cell? ⟨g1, 9, none⟩ = some (.int .i64 0) := HC.out.cell 9
  have cc10 : w2.cell? ⟨g1, 10, none⟩ = some (.int .i64 1) := HC.out.cell 10
  have cc11 : w2.cell? ⟨g1, 11, none⟩ = some (.int .i64 0) := HC.out.cell 11
  have cc12 : w2.cell? ⟨g1, 12, none⟩ = some (.int .i64 0) := HC.out.cell 12
  have cc13 : w2.cell? ⟨g1, 13, none⟩ = some (.int .i64 2) := HC.out.cell 13
  have cc14 : w2.cell? ⟨g1, 14, none⟩ = some (.slice none 0 0) := HC.out.cell 14
  go_wp2_with fail
  have hC3 := Blk.new w2 55 (lay [(refusedS, none, 0)]).toArray
  have hb3 : Below w2.heap.size w2 (w2.alloc (.cells (lay [(refusedS, none, 0)]).toArray 55)) := (Below.refl _ _).alloc (Nat.le_refl _) _
  have HB3 := Lib.hid (HB.out.trans (hb3.mono HB.out.size))
  clear HB HC hb3
  refine (call_steps [(refusedS, none, 0)] w2.heap.size 1 _ _ 1 (-1) hC3 (no_cmds one_none) rfl (by omega) head_first1).mono ?_
  rintro e1 w3 ⟨rfl, hb4⟩
  have HB4 := Lib.hid (HB3.out.trans (hb4.mono HB3.out.size))
  clear HB3 hb4 hC3
  clear cc0 cc1 cc2 cc3 cc4 cc5 cc6 cc7 cc8 cc9 cc10 cc11 cc12 cc13 cc14
  go_wp2
  go_ret
  exact RetB1.mk rfl HB4.out
end Go.Proofs.Ytopbhdpfakjkjaa.Aud
