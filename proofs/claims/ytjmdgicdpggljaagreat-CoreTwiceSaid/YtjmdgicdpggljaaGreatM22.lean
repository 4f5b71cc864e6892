/- Proved: what the core's function values that ask of a sandbox answer. -/
import Derived.Test.YtjmdgicdpggljaaGreatM09
import Derived.Deep.QuietTactic
import Derived.BigQuiet
import Derived.Test.YtjmdgicdpggljaaGreatM02
import Derived.LoopN
import Derived.Shelf.Abstract
import Derived.Lib.SliceRun
import Derived.WalkKit
import Derived.Deep.DeepCutAuto
import Derived.Deep.CutBlock
import Derived.Test.YtjmdgicdpggljaaGreatShelfI
import Derived.Test.YtjmdgicdpggljaaGreatM06
import Derived.OwnWalkIn
import Derived.LoopNIn
set_option linter.all false
namespace Go.Proofs.YtjmdgicdpggljaaGreat.GH
open Go.RowKit Go.Proofs.YtjmdgicdpggljaaGreat.Histo
set_option linter.unusedVariables false

abbrev vptr (q : Nat) : Value := .pointer (some ⟨q, 0, none⟩)
set_option maxHeartbeats 4000000 in
theorem p_ahead (p q : Nat) (b : Box) (f : Int) (w : World) (h : BoxAt w p b) (hc : w.cell? ⟨q, 0, none⟩ = some (.int .i64 f)) : Calls Tryz.prog 84 #[vptr p, vptr q] w (RetV (.bool (b.fn == f)) w) := by
  have c1 : w.cell? ⟨p, 1, none⟩ = some (.int .i64 b.fn) := h.cell 1
  clear h
  go_enter Tryz.func84, Tryz.ntmps84
  go_wp2
  go_quiet (fail)
  go_wp2
  go_ret
  exact ⟨rfl, _, rfl⟩
set_option maxHeartbeats 4000000 in
theorem p_drain (p q : Nat) (b : Box) (f : Int) (w : World) (h : BoxAt w p b) (hc : w.cell? ⟨q, 0, none⟩ = some (.int .i64 f)) : Calls Tryz.prog 54 #[vptr p, vptr q] w (RetV (.bool (b.host == f)) w) := by
  have c1 : w.cell? ⟨p, 2, none⟩ = some (.int .i64 b.host) := h.cell 2
  clear h
  go_enter Tryz.func54, Tryz.ntmps54
  go_wp2
  go_quiet (fail)
  go_wp2
  go_ret
  exact ⟨rfl, _, rfl⟩
set_option maxHeartbeats 4000000 in
theorem p_fail (p q : Nat) (b : Box) (f : Int) (w : World) (h : BoxAt w p b) (hc : w.cell? ⟨q, 0, none⟩ = some (.int .i64 f)) : Calls Tryz.prog 57 #[vptr p, vptr q] w (RetV (.bool (b.host == f)) w) := by
  have c1 : w.cell? ⟨p, 2, none⟩ = some (.int .i64 b.host) := h.cell 2
  clear h
  go_enter Tryz.func57, Tryz.ntmps57
  go_wp2
  go_quiet (fail)
  go_wp2
  go_ret
  exact ⟨rfl, _, rfl⟩
set_option maxHeartbeats 4000000 in
theorem p_free (p q : Nat) (b : Box) (f : Int) (w : World) (h : BoxAt w p b) (hc : w.cell? ⟨q, 0, none⟩ = some (.int .i64 f)) : Calls Tryz.prog 100 #[vptr p, vptr q] w (RetV (.bool (b.fn == f && b.idle)) w) := by
  have c1 : w.cell? ⟨p, 1, none⟩ = some (.int .i64 b.fn) := h.cell 1
  have hi := fun n => idle_any p b (w.drewN n) h
  have hi0 := idle_any p b w h
  obtain ⟨x, hx⟩ : ∃ x, x = (b.fn == f) := ⟨_, rfl⟩
  rw [← hx]
  have hx' := hx.symm
  have hx2 : decide (b.fn = f) = x := by rw [hx]; rfl
  obtain ⟨y, hy⟩ : ∃ y, y = b.idle := ⟨_, rfl⟩
  rw [← hy] at hi hi0 ⊢
  clear hx hy h
  have HI := Lib.hid hi
  have HI0 := Lib.hid hi0
  clear hi hi0
  cases x <;>
  · go_enter Tryz.func100, Tryz.ntmps100
    go_wp2
    go_quiet ((go_at_call 69; first | exact Calls.quiet_of HI0.out | exact Calls.quiet_of (HI.out _)))
    go_wp2
    go_ret
    exact ⟨by simp, _, rfl⟩
set_option maxHeartbeats 4000000 in
theorem p_pinned (p q : Nat) (b : Box) (f : Int) (w : World) (h : BoxAt w p b) (hc : w.cell? ⟨q, 0, none⟩ = some (.int .i64 f)) : Calls Tryz.prog 122 #[vptr p, vptr q] w (RetV (.bool (b.fn == f && b.pinned)) w) := by
  have c1 : w.cell? ⟨p, 1, none⟩ = some (.int .i64 b.fn) := h.cell 1
  have c6 : w.cell? ⟨p, 6, none⟩ = some (.bool b.pinned) := h.cell 6
  obtain ⟨x, hx⟩ : ∃ x, x = (b.fn == f) := ⟨_, rfl⟩
  rw [← hx]
  have hx' := hx.symm
  obtain ⟨y, hy⟩ : ∃ y, y = b.pinned := ⟨_, rfl⟩
  rw [← hy] at c6 ⊢
  clear hx hy h
  cases x <;>
  · go_enter Tryz.func122, Tryz.ntmps122
    go_wp2
    go_quiet (fail)
    go_wp2
    go_ret
    exact ⟨by simp, _, rfl⟩
set_option maxHeartbeats 4000000 in
theorem p_room (p q : Nat) (b : Box) (f : Int) (w : World) (h : BoxAt w p b) (hc : w.cell? ⟨q, 0, none⟩ = some (.int .i64 f)) : Calls Tryz.prog 108 #[vptr p, vptr q] w (RetV (.bool (b.host == f && b.idle && !b.pinned)) w) := by
  have c2 : w.cell? ⟨p, 2, none⟩ = some (.int .i64 b.host) := h.cell 2
  have c6 : w.cell? ⟨p, 6, none⟩ = some (.bool b.pinned) := h.cell 6
  have hi := fun n => idle_any p b (w.drewN n) h
  have hi0 := idle_any p b w h
  obtain ⟨x, hx⟩ : ∃ x, x = (b.host == f) := ⟨_, rfl⟩
  rw [← hx]
  have hx' := hx.symm
  obtain ⟨y, hy⟩ : ∃ y, y = b.idle := ⟨_, rfl⟩
  rw [← hy] at hi hi0 ⊢
  obtain ⟨z, hz⟩ : ∃ z, z = b.pinned := ⟨_, rfl⟩
  rw [← hz] at c6 ⊢
  clear hx hy hz h
  have HI := Lib.hid hi
  have HI0 := Lib.hid hi0
  clear hi hi0
  cases x <;> cases y <;>
  · go_enter Tryz.func108, Tryz.ntmps108
    go_wp2
    go_quiet ((go_at_call 69; first | exact Calls.quiet_of HI0.out | exact Calls.quiet_of (HI.out _)))
    go_wp2
    go_ret
    exact ⟨by simp, _, rfl⟩
set_option maxHeartbeats 8000000 in
theorem p_spare (p q r c hp pc : Nat) (b : Box) (f st : Int) (s : Hosts) (w : World) (h : BoxAt w p b) (hc : w.cell? ⟨q, 0, none⟩ = some (.int .i64 f)) (hs : w.cell? ⟨r, 0, none⟩ = some (.int .i64 st)) (hcc : w.cell? ⟨c, 0, none⟩ = some (vptr pc)) (h5 : w.cell? ⟨pc, 5, none⟩ = some (vptr hp)) (hh : HostsAt w hp s) (ok : s.Ok) :
    Calls Tryz.prog 123 #[vptr p, vptr q, vptr r, vptr c] w (RetV (.bool (b.fn == f && !b.pinned && b.st == st && s.up b.host)) w) := by
  have c1 : w.cell? ⟨p, 1, none⟩ = some (.int .i64 b.fn) := h.cell 1
  have c2 : w.cell? ⟨p, 2, none⟩ = some (.int .i64 b.host) := h.cell 2
  have c4 : w.cell? ⟨p, 4, none⟩ = some (.int .i64 b.st) := h.cell 4
  have c6 : w.cell? ⟨p, 6, none⟩ = some (.bool b.pinned) := h.cell 6
  have hi := fun n => hup_any hp s b.host (w.drewN n) hh ok
  have hi0 := hup_any hp s b.host w hh ok
  obtain ⟨x, hx⟩ : ∃ x, x = (b.fn == f) := ⟨_, rfl⟩
  rw [← hx]
  have hx' := hx.symm
  obtain ⟨v, hv⟩ : ∃ v, v = (b.st == st) := ⟨_, rfl⟩
  rw [← hv]
  have hv' := hv.symm
  obtain ⟨y, hy⟩ : ∃ y, y = s.up b.host := ⟨_, rfl⟩
  rw [← hy] at hi hi0 ⊢
  obtain ⟨z, hz⟩ : ∃ z, z = b.pinned := ⟨_, rfl⟩
  rw [← hz] at c6 ⊢
  clear hx hy hz hv h hh
  have HI := Lib.hid hi
  have HI0 := Lib.hid hi0
  clear hi hi0
  cases x <;> cases z <;> cases v <;>
  · go_enter Tryz.func123, Tryz.ntmps123
    go_wp2
    go_quiet ((go_at_call 73; first | exact Calls.quiet_of HI0.out | exact Calls.quiet_of (HI.out _)))
    go_wp2
    go_ret
    exact ⟨by simp, _, rfl⟩
end Go.Proofs.YtjmdgicdpggljaaGreat.GH

/- Proved: what slices.IndexFunc and slices.DeleteFunc answer and leave at a row of numbers, for a predicate that answers at each number of the row. -/
namespace Go.Proofs.YtjmdgicdpggljaaGreat.GH
open Go.RowKit Go.Proofs.YtjmdgicdpggljaaGreat.Histo
set_option linter.unusedVariables false

/-- A function value answers at each number of a row, whatever is done to the row's block. -/
def PredOn (g : Nat) (lb : Array Value) (p : Int → Bool) (xs : List Int) (q : Nat) (w : World) : Prop :=
  ∀ x ∈ xs, ∀ W, w.grownBy W (some q) → Calls Tryz.prog g (#[.int .i64 x] ++ lb) W fun e w' => e = .returned (.bool (p x)) ∧ ∃ n, w' = W.drewN n
/-- The place of the first number of which it holds. -/
def Hit (p : Int → Bool) (xs : List Int) (i : Int) : Prop := (i = -1 ∧ ∀ x ∈ xs, p x = false) ∨ ∃ k : Nat, i = k ∧ k < xs.length ∧ p (xs.getD k 0) = true ∧ ∀ j, j < k → p (xs.getD j 0) = false
def Found (p : Int → Bool) (xs : List Int) (w : World) (e : Ending) (w' : World) : Prop := ∃ i : Int, e = .returned (.int .i64 i) ∧ Hit p xs i ∧ ∃ n, w' = w.drewN n
theorem nums_getD {xs : List Int} {k : Nat} (h : k < xs.length) : xs.getD k 0 ∈ xs := by
  rw [List.getD_eq_getElem?_getD, List.getElem?_eq_getElem h]
  exact List.getElem_mem h
set_option maxRecDepth 100000 in
set_option maxHeartbeats 4000000 in
theorem ixf_any (g : Nat) (lb : Array Value) (p : Int → Bool) (xs : List Int) (q cap : Nat) (cs : Array Value) (w : World) (hb : Blk w q 3 cs) (hc : ∀ k, k < xs.length → cs[k]? = some (.int .i64 (xs.getD k 0))) (hp : PredOn g lb p xs q w)
    (eg : ∀ args w, (callFunc g args).run Tryz.prog w = .ok (.enter g args) w) (hcap : xs.length ≤ cap) (hm : cap ≤ 9223372036854775807) :
    Calls Tryz.prog 125 #[.slice (some ⟨q, 0, none⟩) xs.length cap, .func (.func g) #[] lb] w (Found p xs w) := by
  obtain ⟨n, hn⟩ : ∃ n, n = xs.length := ⟨_, rfl⟩
  rw [← hn] at hcap hc ⊢
  have HB := Lib.hid hb
  have HC := Lib.hid hc
  have HP := Lib.hid hp
  have HN := Lib.hid hn
  have n0 : (n : Int) ≤ 9223372036854775807 := by omega
  clear hb hc hp hn
  go_enter Tryz.func125, Tryz.ntmps125
  go_wp2
  go_loopw [8] (fun i wr => ∃ k : Nat, k ≤ n ∧ i = .int .i64 k ∧ (∀ j, j < k → p (xs.getD j 0) = false) ∧ ∃ m, wr = w.drewN m) (fun i _ => n - (intOf i).toNat)
  case atStart => exact ⟨0, by omega, rfl, fun j hj => absurd hj (by omega), 0, rfl⟩
  case round =>
    obtain ⟨k, hk, rfl, hj, m, hw⟩ := hrel
    have HJ := Lib.hid hj
    have HW := Lib.hid hw
    have ck0 : k < n → wr.cell? ⟨q, k, none⟩ = some (.int .i64 (xs.getD k 0)) := fun h => by rw [hw]; exact (HB.out.cell k).trans (HC.out k h)
    have hcall0 : k < n → Calls Tryz.prog g (#[.int .i64 (xs.getD k 0)] ++ lb) wr fun e w' => e = .returned (.bool (p (xs.getD k 0))) ∧ ∃ n, w' = wr.drewN n := fun h => HP.out _ (nums_getD (by rw [← HN.out]; exact h)) wr (by rw [hw]; exact only_drewN (only_refl _ _) m)
    clear hj hw
    by_cases hlt : k < n
    · have ck := ck0 hlt
      have hcall := hcall0 hlt
      clear ck0 hcall0
      have hz : (k : Int) < (n : Int) := by omega
      obtain ⟨x, hx⟩ : ∃ x, x = xs.getD k 0 := ⟨_, rfl⟩
      rw [← hx] at ck hcall
      obtain ⟨b, hbq⟩ : ∃ b, b = p x := ⟨_, rfl⟩
      rw [← hbq] at hcall
      have HX := Lib.hid hx
      have HBQ := Lib.hid hbq
      have HCALL := Lib.hid hcall
      clear hx hbq hcall
      cases b
      · go_wp2_with (go_at_fn g; refine HCALL.out.mono ?_; rintro e w' ⟨rfl, m2, rfl⟩)
        go_roundw
        case rel => exact ⟨k + 1, by omega, by go_num, fun j hj => (by
          by_cases e : j = k
          · subst e; rw [← HX.out]; exact HBQ.out.symm
          · exact HJ.out j (by omega)), m + m2, by rw [HW.out, World.drewN_drewN]⟩
        case measure => simp [intOf]; omega
      · go_wp2_with (go_at_fn g; refine HCALL.out.mono ?_; rintro e w' ⟨rfl, m2, rfl⟩)
        go_ret
        exact ⟨_, rfl, .inr ⟨k, rfl, by rw [← HN.out]; exact hlt, by rw [← HX.out]; exact HBQ.out.symm, HJ.out⟩, m + m2, by rw [HW.out, World.drewN_drewN]⟩
    · have hz : ¬ (k : Int) < (n : Int) := by omega
      have hkn : k = n := by omega
      have HKN := Lib.hid hkn
      clear ck0 hcall0 hkn
      go_wp2
      go_ret
      refine ⟨_, rfl, .inl ⟨rfl, fun x hx => ?_⟩, m, HW.out⟩
      obtain ⟨j, hj, rfl⟩ := List.getElem_of_mem hx
      have := HJ.out j (by rw [HKN.out, HN.out]; exact hj)
      rw [List.getD_eq_getElem?_getD, List.getElem?_eq_getElem hj] at this
      exact this

/-- What the loop of DeleteFunc keeps. -/
structure DL (w : World) (q : Nat) (p : Int → Bool) (xs : List Int) (i j : Nat) (wr : World) : Prop where
  len : i = ((xs.take j).filter fun x => !p x).length
  only : w.grownBy wr (some q)
  row : ∃ cs : Array Value, Blk wr q 3 cs ∧ (∀ k, k < i → cs[k]? = some (.int .i64 (((xs.take j).filter fun x => !p x).getD k 0))) ∧ (∀ k, i ≤ k → k < j → (cs[k]?).isSome = true) ∧ ∀ k, j ≤ k → k < xs.length → cs[k]? = some (.int .i64 (xs.getD k 0))
theorem take_next' {l : List Int} {k : Nat} (h : k < l.length) : l.take (k + 1) = l.take k ++ [l.getD k 0] := by
  rw [List.take_succ_eq_append_getElem h, List.getD_eq_getElem?_getD, List.getElem?_eq_getElem h]; rfl
theorem DL.skip {w wr : World} {q : Nat} {p : Int → Bool} {xs : List Int} {i j : Nat} (h : DL w q p xs i j wr) (hj : j < xs.length) (hp : p (xs.getD j 0) = true) (m : Nat) : DL w q p xs i (j + 1) (wr.drewN m) := by
  obtain ⟨x, hx⟩ : ∃ x, x = xs.getD j 0 := ⟨_, rfl⟩
  have e : (xs.take (j + 1)).filter (fun x => !p x) = (xs.take j).filter fun x => !p x := by rw [take_next' hj, List.filter_append, ← hx]; rw [← hx] at hp; simp [hp]
  obtain ⟨cs, h1, h2, h3, h4⟩ := h.row
  refine ⟨by rw [e]; exact h.len, only_drewN h.only m, cs, h1, by rw [e]; exact h2, fun k a b => ?_, fun k a b => h4 k (by omega) b⟩
  by_cases e : k = j
  · rw [e, h4 j (Nat.le_refl _) hj]; rfl
  · exact h3 k a (by omega)
theorem DL.keep {w wr : World} {q : Nat} {p : Int → Bool} {xs : List Int} {i j : Nat} (h : DL w q p xs i j wr) (hj : j < xs.length) (hij : i ≤ j) (hp : p (xs.getD j 0) = false) (m : Nat) : DL w q p xs (i + 1) (j + 1) ((wr.drewN m).setCell ⟨q, i, none⟩ (.int .i64 (xs.getD j 0))) := by
  obtain ⟨x, hx⟩ : ∃ x, x = xs.getD j 0 := ⟨_, rfl⟩
  rw [← hx] at hp ⊢
  have e : (xs.take (j + 1)).filter (fun x => !p x) = (xs.take j).filter (fun x => !p x) ++ [x] := by rw [take_next' hj, List.filter_append, ← hx]; simp [hp]
  obtain ⟨cs, h1, h2, h3, h4⟩ := h.row
  have hs : j < cs.size := by
    rcases Nat.lt_or_ge j cs.size with h | h
    · exact h
    · have := h4 j (Nat.le_refl _) hj; rw [Array.getElem?_eq_none h] at this; cases this
  refine ⟨by rw [e, List.length_append, ← h.len]; rfl, only_setCell (only_drewN h.only m) (.inl rfl) _, cs.setIfInBounds i (.int .i64 x), (h1.drewN m).set_ i _, fun k hk => ?_, fun k a b => ?_, fun k a b => ?_⟩
  · rw [e, Array.getElem?_setIfInBounds]
    by_cases ek : i = k
    · subst ek
      rw [if_pos rfl, if_pos (by omega), List.getD_eq_getElem?_getD, List.getElem?_append_right (by rw [← h.len]; exact Nat.le_refl _), ← h.len, Nat.sub_self]
      rfl
    · rw [if_neg ek, h2 k (by omega), List.getD_eq_getElem?_getD, List.getD_eq_getElem?_getD, List.getElem?_append_left (by rw [← h.len]; omega)]
  · rw [Array.getElem?_setIfInBounds, if_neg (by omega)]
    by_cases ek : k = j
    · rw [ek, h4 j (Nat.le_refl _) hj]; rfl
    · exact h3 k (by omega) (by omega)
  · rw [Array.getElem?_setIfInBounds, if_neg (by omega)]
    exact h4 k (by omega) b
/-- The numbers that stay, in a row's beginning. -/
def Rest (w : World) (q cap : Nat) (ys : List Int) (e : Ending) (w' : World) : Prop := e = .returned (.slice (some ⟨q, 0, none⟩) ys.length cap) ∧ w.grownBy w' (some q) ∧ ∃ cs : Array Value, Blk w' q 3 cs ∧ ∀ k, k < ys.length → cs[k]? = some (.int .i64 (ys.getD k 0))
theorem setCells_blk (q : Nat) (t : TypeId) : ∀ (vs : List Value) (o : Nat) (w : World) (cs : Array Value), Blk w q t cs → ∃ cs', Blk (w.setCells q o vs) q t cs' ∧ (∀ k, k < o → cs'[k]? = cs[k]?) ∧ ∀ a : World, a.grownBy w (some q) → a.grownBy (w.setCells q o vs) (some q)
  | [], o, w, cs, h => ⟨cs, h, fun _ _ => rfl, fun _ h => h⟩
  | v :: vs, o, w, cs, h => by
    obtain ⟨cs', h1, h2, h3⟩ := setCells_blk q t vs (o + 1) (w.setCell ⟨q, o, none⟩ v) _ (h.set_ o v)
    refine ⟨cs', h1, fun k hk => ?_, fun a ha => h3 a (only_setCell ha (.inl rfl) v)⟩
    rw [h2 k (by omega), Array.getElem?_setIfInBounds, if_neg (by omega)]
theorem zero_intD (w : World) : (zeroValue 3).run Tryz.prog w = .ok (.int .i64 0) w := by kernel_rfl
set_option maxRecDepth 100000 in
set_option maxHeartbeats 8000000 in
theorem delf_any (g : Nat) (lb : Array Value) (p : Int → Bool) (xs : List Int) (q cap : Nat) (cs : Array Value) (w : World) (hb : Blk w q 3 cs) (hc : ∀ k, k < xs.length → cs[k]? = some (.int .i64 (xs.getD k 0))) (hp : PredOn g lb p xs q w)
    (eg : ∀ args w, (callFunc g args).run Tryz.prog w = .ok (.enter g args) w) (hcap : xs.length ≤ cap) (hm : cap ≤ 9223372036854775807) :
    Calls Tryz.prog 95 #[.slice (some ⟨q, 0, none⟩) xs.length cap, .func (.func g) #[] lb] w (Rest w q cap (xs.filter fun x => !p x)) := by
  have hix := ixf_any g lb p xs q cap cs w hb hc hp eg hcap hm
  obtain ⟨n, hn⟩ : ∃ n, n = xs.length := ⟨_, rfl⟩
  rw [← hn] at hcap hc hix ⊢
  have HIX := Lib.hid hix
  have HB := Lib.hid hb
  have HC := Lib.hid hc
  have HP := Lib.hid hp
  have HN := Lib.hid hn
  have n0 : (n : Int) ≤ 9223372036854775807 := by omega
  have hqw : q < w.heap.size := hb.lt
  have nhit : (n : Int) ≠ -1 := by omega
  clear hb hc hp hn hix nhit
  go_enter Tryz.func95, Tryz.ntmps95
  go_upto_if 12 with (go_at_call 125; refine HIX.out.mono ?_; rintro e w' ⟨i, rfl, hit, m, rfl⟩; have HIT := Lib.hid hit; clear hit)
  rcases HIT.out with ⟨h1, h2⟩ | ⟨k, h1, h2, h3, h4⟩
  · have e1 : (i == -1) = true := by rw [h1]; rfl
    have H2 := Lib.hid h2
    clear h1 h2 HIT
    go_wp2
    go_ret
    have e : xs.filter (fun x => !p x) = xs := List.filter_eq_self.2 fun x hx => by simp [H2.out x hx]
    exact ⟨by rw [e, HN.out]; rfl, only_drewN (only_refl _ _) m, cs, HB.out.drewN m, fun k hk => by rw [e] at hk ⊢; exact HC.out k (by rw [HN.out]; exact hk)⟩
  · have e1 : (i == -1) = false := by rw [h1]; exact beq_eq_false_iff_ne.2 (by omega)
    have hlen : ((xs.take (k + 1)).filter fun x => !p x) = xs.take k := by
      rw [take_next' h2, List.filter_append, List.filter_cons, if_neg (by rw [h3]; simp), List.filter_nil, List.append_nil]
      refine List.filter_eq_self.2 fun x hx => ?_
      obtain ⟨j, hj, rfl⟩ := List.getElem_of_mem hx
      rw [List.length_take] at hj
      have := h4 j (by omega)
      rw [List.getD_eq_getElem?_getD, List.getElem?_eq_getElem (by omega)] at this
      simp only [List.getElem_take, Option.getD_some] at this ⊢
      simp [this]
    have hst : DL w q p xs k (k + 1) (w.drewN m) := by
      refine ⟨by rw [hlen, List.length_take]; omega, only_drewN (only_refl _ _) m, cs, HB.out.drewN m, fun j hj => ?_, fun j a b => ?_, fun j a b => HC.out j (by rw [HN.out]; exact b)⟩
      · rw [hlen, HC.out j (by rw [HN.out]; omega), List.getD_eq_getElem?_getD, List.getD_eq_getElem?_getD, List.getElem?_take, if_pos hj]
      · rw [HC.out j (by rw [HN.out]; omega)]; rfl
    have HST := Lib.hid hst
    have hkn : k < n := by rw [HN.out]; exact h2
    have hkz : (k : Int) < (n : Int) := by omega
    have H3 := Lib.hid h3
    rw [e1]
    clear e1
    subst h1
    clear hlen hst HIT h2 h3 h4
    go_wp2
    go_loopw [5, 6] (fun a b wr => ∃ i j : Nat, a = .int .i64 i ∧ b = .int .i64 j ∧ i < j ∧ j ≤ n ∧ k < j ∧ DL w q p xs i j wr) (fun _ b _ => n - (intOf b).toNat)
    case atStart => exact ⟨k, k + 1, rfl, by go_num, by omega, by omega, by omega, HST.out⟩
    case round =>
      obtain ⟨i, j, rfl, rfl, hij, hjn, hkj, hD⟩ := hrel
      have HD := Lib.hid hD
      have hjx : j < n → j < xs.length := fun h => by rw [← HN.out]; exact h
      by_cases hlt : j < n
      · have hx := hjx hlt
        obtain ⟨cs', b1, b2, b3, b4⟩ := hD.row
        have cj : wr.cell? ⟨q, j, none⟩ = some (.int .i64 (xs.getD j 0)) := (b1.cell j).trans (b4 j (Nat.le_refl _) hx)
        have ci : (wr.cell? ⟨q, i, none⟩).isSome = true := by
          rw [b1.cell i]
          exact b3 i (Nat.le_refl _) hij
        have fi := b1.frozen i
        have hcall : ∀ _ : Nat, Calls Tryz.prog g (#[.int .i64 (xs.getD j 0)] ++ lb) wr fun e w' => e = .returned (.bool (p (xs.getD j 0))) ∧ ∃ n, w' = wr.drewN n := fun _ => HP.out _ (nums_getD hx) wr hD.only
        have hskip := hD.skip hx
        have hkeep := hD.keep hx (by omega)
        have hz : (j : Int) < (n : Int) := by omega
        clear hD b1 b2 b3 b4
        obtain ⟨x, hxx⟩ : ∃ x, x = xs.getD j 0 := ⟨_, rfl⟩
        rw [← hxx] at cj hcall hskip hkeep
        obtain ⟨b, hbq⟩ : ∃ b, b = p x := ⟨_, rfl⟩
        rw [← hbq] at hcall hskip hkeep
        have HX := Lib.hid hxx
        have HBQ := Lib.hid hbq
        have HCALL := Lib.hid (hcall 0)
        have HSK := Lib.hid (fun (h : b = true) m => hskip h m)
        have HKP := Lib.hid (fun (h : b = false) m => hkeep h m)
        obtain ⟨old, hold⟩ := Option.isSome_iff_exists.1 ci
        clear hxx hbq hcall hskip hkeep hjx hx ci
        cases b
        · have HKP2 := Lib.hid (fun m => HKP.out rfl m)
          go_wp2_with (go_at_fn g; refine HCALL.out.mono ?_; rintro e w' ⟨rfl, m2, rfl⟩)
          go_roundw
          case rel => exact ⟨i + 1, j + 1, by go_num, by go_num, by omega, by omega, by omega, HKP2.out m2⟩
          case measure => simp [intOf]; omega
        · have HSK2 := Lib.hid (fun m => HSK.out rfl m)
          go_wp2_with (go_at_fn g; refine HCALL.out.mono ?_; rintro e w' ⟨rfl, m2, rfl⟩)
          go_roundw
          case rel => exact ⟨i, j + 1, rfl, by go_num, by omega, by omega, by omega, HSK2.out m2⟩
          case measure => simp [intOf]; omega
      · have hjn' : j = n := by omega
        have hz : ¬ (j : Int) < (n : Int) := by omega
        have hin : i < n := by omega
        obtain ⟨cs', b1, b2, b3, b4⟩ := hD.row
        have hcl : ∀ ty, (Builtin.clear_ #[68] ty #[.slice (some ⟨q, i, none⟩) (n - i) (cap - i)]).run Tryz.prog wr = .ok (.tuple #[]) (wr.setCells q i (List.replicate (n - i) (.int .i64 0))) :=
          fun ty => Lib.run_clear_slice wr _ _ ty _ Tryz.underlying68 zero_intD rfl rfl q i _ _ (by omega) (fun t ht => by rw [b1.cell]; exact b3 _ (by omega) (by omega)) (fun t _ => b1.frozen _)
        have hee : xs.take j = xs := List.take_of_length_le (by rw [hjn', HN.out]; exact Nat.le_refl _)
        have hl := hD.len
        rw [hee] at hl b2
        obtain ⟨cs2, d1, d2, d3⟩ := setCells_blk q 3 (List.replicate (n - i) (.int .i64 0)) i wr cs' b1
        have hend : Rest w q cap (xs.filter fun x => !p x) (.returned (.slice (some ⟨q, 0, none⟩) i cap)) (wr.setCells q i (List.replicate (n - i) (.int .i64 0))) :=
          ⟨by rw [hl], d3 _ hD.only, cs2, d1, fun t ht => by rw [d2 t (by omega)]; exact b2 t (by omega)⟩
        have HE := Lib.hid hend
        clear hD b1 b2 b3 b4 hee hl d1 d2 d3 hend hjx hjn'
        go_wp2
        go_ret
        exact HE.out
set_option maxHeartbeats 4000000 in
theorem ixf_nil (f : Value) (w : World) : Calls Tryz.prog 125 #[.slice none 0 0, f] w fun e w' => e = .returned (.int .i64 (-1)) ∧ w' = w := by
  go_enter Tryz.func125, Tryz.ntmps125
  go_wp2
  refine wp_loop_rounds 1 ?_
  rw [rounds_succ]
  go_wp2
  go_ret
  exact ⟨rfl, rfl⟩
set_option maxHeartbeats 4000000 in
theorem delf_nil (f : Value) (w : World) : Calls Tryz.prog 95 #[.slice none 0 0, f] w fun e w' => e = .returned (.slice none 0 0) ∧ w' = w := by
  go_enter Tryz.func95, Tryz.ntmps95
  go_wp2_with (go_at_call 125; refine (ixf_nil _ _).mono ?_; rintro e w' ⟨rfl, rfl⟩)
  go_ret
  exact ⟨rfl, rfl⟩
end Go.Proofs.YtjmdgicdpggljaaGreat.GH

/- Proved: what the core's ids answers: the numbers of the sandboxes that are there, in order. -/
namespace Go.Proofs.YtjmdgicdpggljaaGreat.GH
open Go.RowKit Go.Maps Go.Sort Go.Shelf Go.Proofs.YtjmdgicdpggljaaGreat.Histo
set_option linter.unusedVariables false

/-- A row of numbers in a new block; nil where there are none. -/
def Nums (base : Nat) (w : World) (v : Value) (xs : List Int) : Prop :=
  (v = .slice none 0 0 ∧ xs = []) ∨ ∃ q cap cs, v = .slice (some ⟨q, 0, none⟩) xs.length cap ∧ base ≤ q ∧ xs.length ≤ cap ∧ cap ≤ 9223372036854775807 ∧ Blk w q 3 cs ∧ ∀ k, k < xs.length → cs[k]? = some (.int .i64 (xs.getD k 0))
theorem Nums.of_row {base : Nat} {w : World} {v : Value} {xs : List Int} (h : w.ownsRow base 3 1 v xs.length (xs.map encZ)) : Nums base w v xs := by
  obtain ⟨_, h2⟩ := h
  rcases h2 with ⟨h3, h4⟩ | ⟨g, cap, cur, h3, h4, h5, h6, h7, h8, h9⟩
  · exact .inl ⟨h3, List.length_eq_zero_iff.1 h4⟩
  · refine .inr ⟨g, cap, cur, h3, h4, h6, by unfold maxLen at h7; exact h7, h5, fun k hk => ?_⟩
    have : cur.toList[k]? = (xs.map encZ)[k]? := by rw [← h9, List.getElem?_take, if_pos (by omega)]
    rw [← Array.getElem?_toList, this, List.getElem?_map, List.getElem?_eq_getElem hk, List.getD_eq_getElem?_getD, List.getElem?_eq_getElem hk]
    rfl
theorem Nums.base {base base' : Nat} {w : World} {v : Value} {xs : List Int} (h : Nums base w v xs) (hb : base' ≤ base) : Nums base' w v xs := by
  rcases h with h | ⟨q, cap, cs, h1, h2, h3⟩
  · exact .inl h
  · exact .inr ⟨q, cap, cs, h1, Nat.le_trans hb h2, h3⟩
def NumsOut (xs : List Int) (w : World) (e : Ending) (w' : World) : Prop := ∃ v, e = .returned v ∧ Nums w.heap.size w' v xs ∧ Below w.heap.size w w'
theorem sort_keys {l : MapI.AL} (hs : l.Pairwise fun p q => p.1 < q.1) {ss : List Int} (h : ss.Perm (intKeys (.map (MapI.enc l)))) : ss.mergeSort (fun x y => decide (x ≤ y)) = l.map (·.1) := by
  have e : intKeys (.map (MapI.enc l)) = l.map (·.1) := by show (MapI.enc l).map (fun p => Go.intOf p.1) = _; unfold MapI.enc; rw [List.map_map]; rfl
  rw [e] at h
  rw [show (fun x y : Int => decide (x ≤ y)) = leI from rfl, mergeSort_of_perm_i h]
  refine List.mergeSort_of_pairwise ?_
  rw [List.pairwise_map]
  exact hs.imp fun {a b} h => by simp only [leI, decide_eq_true_eq]; omega
theorem Tryz.sortsI (m : Nat) : AnyZI.SortsIn Tryz.prog Tryz.sortedI_ren Fence.wide m :=
  ⟨fun blk off cap ss W hH hblk hsz => callsIn_wide.2 (AnyM.slices_Sort_int Tryz.sortI blk off cap ss W hH hblk hsz),
   fun p cap W => callsIn_wide.2 (AnyM.slices_Sort_int_none Tryz.sortI p cap W)⟩
set_option maxRecDepth 100000 in
set_option maxHeartbeats 4000000 in
theorem ids_any (w : World) (p mb nn : Nat) (l : MapI.AL) (hp : w.cell? ⟨p, 7, none⟩ = some (.map (some mb))) (hpw : p < w.heap.size) (hm : MapI.At Tryz.prog 3 w mb nn l) (hmax : l.length ≤ 1099511627776) :
    Calls Tryz.prog 17 #[.pointer (some ⟨p, 0, none⟩)] w (NumsOut (l.map (·.1)) w) := by
  refine (callsIn_wide (n := 6)).1 ?_
  have hbl := hm.lt
  have hsz : Maps.size (.map (MapI.enc l)) = l.length := by unfold MapI.enc; simp [Maps.size]
  have hseq : SeqGives Fence.wide 2 Tryz.prog 79 #[.pointer (some ⟨w.heap.size, 0, none⟩)] encZ (fun ss => ss.Perm (intKeys (.map (MapI.enc l)))) (Maps.size (.map (MapI.enc l))) (w.alloc (.cells #[.map (some mb)] 52)) :=
    AnyZI.keys_gives (ρ := Tryz.keysB_ren) { Tryz.keysB with } Fence.wide _ trivial rfl (by omega) w.heap.size mb nn (.map (MapI.enc l)) _ (by simp) (by simp) (MapI.At.alloc hm _)
  have cK : ∀ mb W, CallsIn Fence.wide 5 Tryz.prog 36 #[.map mb] W fun e w' => e = .returned (.func (.func 79) #[] #[.pointer (some ⟨W.heap.size, 0, none⟩)]) ∧ w' = W.alloc (.cells #[.map mb] 52) := fun mb W => AnyZI.keys_in Tryz.keysB Fence.wide 5 trivial rfl mb W
  have cS := AnyZI.sorted_in Tryz.sortedI Fence.wide 5 trivial trivial trivial trivial rfl (by omega) (Tryz.sortsI _) (enters_of Tryz.func78 (by kernel_rfl) rfl) 79 #[.pointer (some ⟨w.heap.size, 0, none⟩)] trivial (enters_of Tryz.func79 (by kernel_rfl) rfl) _ _ (by rw [hsz]; unfold maxLen; omega) (by rw [hsz]; omega) _ hseq
  change CallsIn _ _ Tryz.prog 35 _ _ _ at cS
  have hfK : Fence.wide.fn 36 := trivial
  have hfS : Fence.wide.fn 35 := trivial
  have hsort := fun ss => sort_keys (l := l) (MapI.At.sorted hm Tryz.underlying3) (ss := ss)
  have HS := Lib.hid hsort
  have HSZ := Lib.hid hsz
  clear hsort hsz hseq hm hmax
  refine callsIn_of_wp Tryz.func17 rfl trivial ?_ rfl
  simp only [Tryz.ntmps17, List.size_toArray, List.length_cons, List.length_nil, Nat.reduceAdd, Nat.reduceSub, Array.replicate_succ, Array.replicate_zero, List.push_toArray, List.append_toArray, List.nil_append, List.cons_append]
  gi_wp2_with (first
    | (gi_at_call 36; refine (cK _ _).mono ?_; rintro e w' ⟨rfl, rfl⟩)
    | (gi_at_call 35; refine cS.mono ?_; rintro e w' ⟨v, ss, rfl, hS, hrow, hnil, hb⟩))
  go_ret
  have hl : ss.length = (ss.mergeSort fun x y => decide (x ≤ y)).length := (List.length_mergeSort ..).symm
  rw [hl, HS.out ss hS] at hrow
  refine ⟨v, rfl, (Nums.of_row hrow).base (by simp), ((Below.refl _ w).alloc (Nat.le_refl _) _).trans (hb.mono (by simp))⟩
end Go.Proofs.YtjmdgicdpggljaaGreat.GH
