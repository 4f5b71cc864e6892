/- Proved: sync.Once around the maker's text, in a run of one goroutine. -/
import Derived.Test.YtfdmkfoiooibiaaTallyOnceParts
import Derived.Deep.RegionWith
namespace Go.Proofs.Ytfdmkfoiooibiaa.Tally
open Go.RowKit

set_option maxRecDepth 100000 in
set_option maxHeartbeats 1600000 in
theorem text_any (m : Nat) (nm : ByteArray) (c : Int) (w : World) (h0 : w.cell? ⟨m, 0, none⟩ = some (.string nm)) (h1 : w.cell? ⟨m, 1, none⟩ = some (.int .i64 c)) (f1 : w.frozen? ⟨m, 1, none⟩ = false) (c0 : 0 ≤ c) (c1 : c ≤ 100) :
    Calls Try.prog 34 #[.pointer (some ⟨m, 0, none⟩)] w fun e w' => e = .returned (.string nm) ∧ w' = w.setCell ⟨m, 1, none⟩ (.int .i64 (c + 1)) := by
  have h2 : (w.setCell ⟨m, 1, none⟩ (.int .i64 (c + 1))).cell? ⟨m, 0, none⟩ = some (.string nm) := (World.cell?_setCell_other _ ⟨m, 1, none⟩ ⟨m, 0, none⟩ _ (by simp)).trans h0
  go_enter Try.func34, Try.ntmps34
  go_wp2
  go_ret
  exact ⟨rfl, rfl⟩

/-- All blocks but two lie as they lay. -/
structure Two (g m : Nat) (w w' : World) : Prop where
  os : w'.os = w.os
  tape : w'.tape = w.tape
  output : w'.output = w.output
  size : w'.heap.size = w.heap.size
  block : ∀ k, k ≠ g → k ≠ m → w'.heap[k]? = w.heap[k]?

set_option maxRecDepth 100000 in
set_option maxHeartbeats 4000000 in
theorem clos_any (g m pb : Nat) (nm v0 : ByteArray) (c : Int) (w : World) (hgm : ¬ g = m) (hpg : ¬ pb = g) (hpm : ¬ pb = m) (hp : w.cell? ⟨pb, 0, none⟩ = some (.pointer (some ⟨g, 0, none⟩)))
    (h3 : w.cell? ⟨g, 3, none⟩ = some (.func (.func 34) #[.pointer (some ⟨m, 0, none⟩)] #[])) (h4 : w.cell? ⟨g, 4, none⟩ = some (.int .u32 0)) (h5 : w.cell? ⟨g, 5, none⟩ = some (.string v0))
    (f4 : w.frozen? ⟨g, 4, none⟩ = false) (f5 : w.frozen? ⟨g, 5, none⟩ = false) 
    (m0 : w.cell? ⟨m, 0, none⟩ = some (.string nm)) (m1 : w.cell? ⟨m, 1, none⟩ = some (.int .i64 c)) (g1 : w.frozen? ⟨m, 1, none⟩ = false) (c0 : 0 ≤ c) (c1 : c ≤ 100) :
    Calls Try.prog 43 #[.pointer (some ⟨pb, 0, none⟩)] w fun e w' => e = .returned (.tuple #[]) ∧ w' = ((w.drew.setCell ⟨m, 1, none⟩ (.int .i64 (c + 1))).setCell ⟨g, 5, none⟩ (.string nm)).drew.setCell ⟨g, 4, none⟩ (.int .u32 1) := by
  have hpg' : ¬ g = pb := fun h => hpg h.symm
  have hpm' : ¬ m = pb := fun h => hpm h.symm
  have hgm' : ¬ m = g := fun h => hgm h.symm
  have p1 : (w.drew.setCell ⟨m, 1, none⟩ (.int .i64 (c + 1))).cell? ⟨pb, 0, none⟩ = some (.pointer (some ⟨g, 0, none⟩)) := (World.cell?_setCell_other _ ⟨m, 1, none⟩ ⟨pb, 0, none⟩ _ (by simp)).trans hp
  have p2 : ((w.drew.setCell ⟨m, 1, none⟩ (.int .i64 (c + 1))).setCell ⟨g, 5, none⟩ (.string nm)).cell? ⟨pb, 0, none⟩ = some (.pointer (some ⟨g, 0, none⟩)) := (World.cell?_setCell_other _ ⟨g, 5, none⟩ ⟨pb, 0, none⟩ _ (by simp)).trans p1
  have q4 : ((w.drew.setCell ⟨m, 1, none⟩ (.int .i64 (c + 1))).setCell ⟨g, 5, none⟩ (.string nm)).cell? ⟨g, 4, none⟩ = some (.int .u32 0) :=
    (World.cell?_setCell_other _ ⟨g, 5, none⟩ ⟨g, 4, none⟩ _ (by simp)).trans ((World.cell?_setCell_other _ ⟨m, 1, none⟩ ⟨g, 4, none⟩ _ (by simp)).trans h4)
  have q5 : (w.drew.setCell ⟨m, 1, none⟩ (.int .i64 (c + 1))).cell? ⟨g, 5, none⟩ = some (.string v0) := (World.cell?_setCell_other _ ⟨m, 1, none⟩ ⟨g, 5, none⟩ _ (by simp)).trans h5
  have z5 : (w.drew.setCell ⟨m, 1, none⟩ (.int .i64 (c + 1))).frozen? ⟨g, 5, none⟩ = false := by simp [f5]
  have z4 : ((w.drew.setCell ⟨m, 1, none⟩ (.int .i64 (c + 1))).setCell ⟨g, 5, none⟩ (.string nm)).frozen? ⟨g, 4, none⟩ = false := by simp [f4]
  have T := Lib.hid (text_any m nm c w.drew m0 m1 g1 c0 c1)
  clear m0 m1 g1
  go_enter Try.func43, Try.ntmps43
  go_wp2_with fail
  go_region_with (first | (go_at_call 34; refine (T.out).mono ?_; rintro e w' ⟨rfl, rfl⟩))
  all_goals
    go_wp2_with fail
    refine (store_bool ⟨g, 4, none⟩ (.int .u32 0) _ q4 z4).mono ?_
    rintro e w' ⟨rfl, rfl⟩
    go_wp2
    first | go_end0 | refine bodyPost_ret (results_none rfl _ _ _) rfl ?_
    exact ⟨rfl, rfl⟩

end Go.Proofs.Ytfdmkfoiooibiaa.Tally
