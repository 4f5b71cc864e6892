/- Plain: as many events as may be, one after the other. -/
import Derived.Test.YtjmdgicdpggljaaGreatM38
import Derived.Test.YtjmdgicdpggljaaGreatM35
import Derived.Test.YtjmdgicdpggljaaGreatM36
import Derived.Test.YtjmdgicdpggljaaGreatM20
import Derived.KernelRfl
set_option linter.all false
namespace Go.Proofs.YtjmdgicdpggljaaGreat.GH
open Go.Proofs.YtjmdgicdpggljaaGreat.Policy (Win win)
set_option linter.unusedVariables false
open Go.Proofs.YtjmdgicdpggljaaGreat.Event (Ev Ans offs inR)
section
variable {s t : Core}
theorem does_told {q : Option (Int × Core)} (h : ∃ r t, q = some (r, t) ∧ Does s t) : ∃ a t, Core.told q = some (a, t) ∧ Does s t := by
  obtain ⟨r, t, rfl, hd⟩ := h
  exact ⟨_, t, rfl, hd⟩
theorem does_act (I : Ok0 s) (hn : s.next + 65000 ≤ 1000000000) {e : Ev} (hr : e.right = true) : ∃ a t, s.act e = some (a, t) ∧ Does s t := by
  obtain ⟨_, _, h2⟩ := right_facts hr
  unfold Core.act
  split
  · obtain ⟨t, ht, hd⟩ := does_tick I hn
    exact does_told ⟨0, t, by rw [ht]; rfl, hd⟩
  split
  · exact does_told ⟨_, _, rfl, does_account I e⟩
  split
  · next e2 => exact does_told (does_function I hn e (h2 e2).2)
  split
  · exact does_told (does_host I hn e.n e.size)
  split
  · exact does_told (does_drain I hn e.n)
  split
  · exact does_told (does_fail I hn e.n)
  split
  · exact does_call I hn e.n
  split
  · exact does_told (does_booted I e.n)
  split
  · exact does_told (does_broke I hn e.n)
  · exact does_told (does_done I e.n)
/-- Behind so many events. -/
structure Runs (k : Nat) (s : Core) : Prop where
  ok : Ok0 s
  next : s.next ≤ 1 + 65000 * k
  ans : ∀ x ∈ s.ans, x ≤ (k : Int)
theorem Runs.mono {k m : Nat} (h : Runs k s) (hm : k ≤ m) : Runs m s := ⟨h.ok, by have := h.next; omega, fun x hx => by have := h.ans x hx; omega⟩
theorem Runs.do_ {k : Nat} (R : Runs k s) (hk : k ≤ 10000) (e : Ev) : ∃ a out t, s.do_ e = some (a, out, t) ∧ Runs (k + 1) t := by
  unfold Core.do_
  have hnx := R.next
  by_cases hr : e.right = false
  · rw [if_pos hr]
    exact ⟨_, _, s, rfl, R.mono (by omega)⟩
  · rw [if_neg hr]
    have hr' : e.right = true := by simpa using hr
    obtain ⟨a, t, ht, hd⟩ := does_act (s := { s with out := [] }) (R.ok.out []) (by show s.next + 65000 ≤ _; omega) hr'
    rw [ht]
    simp only
    have ha : ∀ x ∈ t.ans, x ≤ (k : Int) := by rw [hd.ans]; exact R.ans
    have hget : t.ans.getD a.kind.toNat 0 ≤ (k : Int) := by
      rw [List.getD_eq_getElem?_getD]
      cases e2 : t.ans[a.kind.toNat]? with
      | none => simp
      | some x => exact ha x (List.mem_of_getElem? e2)
    rw [if_pos (by omega)]
    have hh : t.next ≤ s.next + 65000 := hd.hi
    refine ⟨a, t.out, _, rfl, hd.ok.of rfl rfl rfl rfl rfl rfl rfl rfl, by show t.next ≤ _; omega, fun x hx => ?_⟩
    have hx2 : x ∈ t.ans.set a.kind.toNat (t.ans.getD a.kind.toNat 0 + 1) := hx
    rcases List.mem_or_eq_of_mem_set hx2 with h | h
    · have := ha x h; omega
    · omega
end
theorem hi_new : HI (List.replicate 32 Mach.none) (fun _ => 0) := by
  refine ⟨List.length_replicate, fun h h0 h1 => ?_, fun m hm _ => by rw [List.eq_of_mem_replicate hm]; rfl⟩
  have := at_mem (hs := List.replicate 32 Mach.none) List.length_replicate h0 h1
  rw [List.eq_of_mem_replicate this]; rfl
theorem runs_new : Runs 0 Core.new := by
  refine ⟨⟨FM.Sorted.nil, FM.Sorted.nil, (by show (1 : Int) ≤ 1 ∧ (1 : Int) ≤ 1000000000; decide), fun id b h => (by cases h), fun f y h => (by cases h), fun f hf => ?_, fun f y h => (by cases h), List.nodup_nil, fun p hp => (by cases hp), fun h => List.nodup_nil, fun h id => ?_, fun h p hp => (by cases hp), fun h => (by show ((0 : Nat) : Int) + 1000000 * ((0 : Nat) : Int) ≤ 1000000 * 1; decide), hi_new⟩, by show (1 : Int) ≤ _; omega, fun x hx => ?_⟩
  · exfalso
    have hf2 : (Quota.none).known f = true := hf
    unfold Quota.known Quota.f Quota.none at hf2
    simp only [Bool.and_eq_true] at hf2
    have h3 := hf2.2
    rw [List.getD_eq_getElem?_getD, List.getElem?_replicate] at h3
    split at h3 <;> cases h3
  · constructor
    · rintro ⟨p, hp, _⟩; cases hp
    · rintro ⟨_, b, hb, _⟩; cases hb
  · have hx2 : x ∈ ([0, 0, 0, 0, 0] : List Int) := hx
    simp at hx2
    omega
end Go.Proofs.YtjmdgicdpggljaaGreat.GH

/- Proved: core's document example, step by step: law 18's head holds. -/
namespace Go.Proofs.YtjmdgicdpggljaaGreat.GH
open Go.RowKit Go.Maps Go.Sort Go.Shelf Go.Proofs.YtjmdgicdpggljaaGreat.Histo Go.Proofs.YtjmdgicdpggljaaGreat.Event Go.Proofs.YtjmdgicdpggljaaGreat.Ring
set_option linter.unusedVariables false
open Go.Proofs.YtjmdgicdpggljaaGreat.MapI (AL At Rng W64)
attribute [local go_sem] Oper.semAt_some

noncomputable def headRun : Option (Ans × List Cmd × Ans) :=
  match Core.new.do_ ⟨1, 0, 1, 1, 0, 0, 0, 0, 0, 0⟩ with
  | none => none
  | some (_, _, s1) => match s1.do_ ⟨2, 0, 0, 0, 0, 0, 2, 1, 0, 0⟩ with
    | none => none
    | some (_, _, s2) => match s2.do_ ⟨3, 0, 0, 2, 0, 0, 0, 0, 0, 0⟩ with
      | none => none
      | some (_, _, s3) => match s3.do_ ⟨6, 0, 0, 0, 0, 0, 0, 0, 0, 0⟩ with
        | none => none
        | some (a, out, s4) => match s4.do_ ⟨6, 0, 0, 0, 0, 0, 0, 0, 0, 0⟩ with
          | none => none
          | some (b, _, _) => some (a, out, b)
theorem head_val : headRun = some (⟨3, 1, 0, 0⟩, [⟨true, 1, 0, 0⟩], ⟨4, 0, 2, 0⟩) := by kernel_rfl
theorem head_steps : ∃ a1 o1 s1 a2 o2 s2 a3 o3 s3 s4 o5 s5, Core.new.do_ ⟨1, 0, 1, 1, 0, 0, 0, 0, 0, 0⟩ = some (a1, o1, s1) ∧ s1.do_ ⟨2, 0, 0, 0, 0, 0, 2, 1, 0, 0⟩ = some (a2, o2, s2) ∧ s2.do_ ⟨3, 0, 0, 2, 0, 0, 0, 0, 0, 0⟩ = some (a3, o3, s3) ∧
    s3.do_ ⟨6, 0, 0, 0, 0, 0, 0, 0, 0, 0⟩ = some (⟨3, 1, 0, 0⟩, [⟨true, 1, 0, 0⟩], s4) ∧ s4.do_ ⟨6, 0, 0, 0, 0, 0, 0, 0, 0, 0⟩ = some (⟨4, 0, 2, 0⟩, o5, s5) := by
  have h := head_val
  unfold headRun at h
  split at h
  · cases h
  · next a1 o1 s1 h1 =>
    split at h
    · cases h
    · next a2 o2 s2 h2 =>
      split at h
      · cases h
      · next a3 o3 s3 h3 =>
        split at h
        · cases h
        · next a out s4 h4 =>
          split at h
          · cases h
          · next b o5 s5 h5 =>
            cases h
            exact ⟨_, _, _, _, _, _, _, _, _, _, _, _, h1, h2, h3, h4, h5⟩
/-- A core of one's own, in a world that grew out of another. -/
structure One (w0 W : World) (g : G) (s : Core) (p : Nat) : Prop where
  st : St W g s
  ad : g.ad .core = p
  below : Below w0.heap.size w0 W
  own : ∀ q, q < w0.heap.size → g.own q = .none
section
variable {w0 w W : World} {g g' : G} {s t : Core} {p : Nat} {ov : Value} {out : List Cmd}
theorem good_new : Good Core.new := by
  refine ⟨(by show (0 : Int) ≤ 0 ∧ (0 : Int) ≤ 1099511627776; decide), (by show (1 : Int) ≤ 1 ∧ (1 : Int) ≤ 1099511627776; decide), fun _ _ h => (by cases h), fun _ _ h => (by cases h), fun _ _ h => (by cases h), fun _ _ h => (by cases h), fun _ _ h => (by cases h), fun x hx => ?_, (by show (((0 : Nat) : Int)) ≤ 2 * 1; decide)⟩
  have hx2 : x ∈ ([0, 0, 0, 0, 0] : List Int) := hx
  simp at hx2
  omega
theorem g0_own {n q : Nat} (h : q < n) : (g0 n).own q = .none := by
  unfold g0
  simp only
  repeat rw [if_neg (by omega)]
theorem One.new (hm : Mem W (g0 w.heap.size) Core.new (.slice none 0 0)) (hb : Below w.heap.size w W) : One w W (g0 w.heap.size) Core.new (w.heap.size + 10) := ⟨⟨⟨_, hm⟩, good_new⟩, rfl, hb, fun _ hq => g0_own hq⟩
theorem One.did (O : One w0 w g s p) (h : DidDo w g p W g' t ov out) : One w0 W g' t p := by
  have hz := O.below.size
  refine ⟨h.st, h.ad, ⟨h.os.trans O.below.os, h.tape.trans O.below.tape, h.output.trans O.below.output, Nat.le_trans hz h.size, fun q hq => (h.block q (by omega) (.inl (O.own q hq))).trans (O.below.block q hq)⟩, fun q hq => ?_⟩
  rcases h.own q (by omega) with e | ⟨_, e⟩
  · rw [e]; exact O.own q hq
  · exact e
theorem One.grow (O : One w0 w g s p) (hb : Below w.heap.size w W) : One w0 W (g.fresh w.heap.size) s p := by
  have hz := O.below.size
  refine ⟨((To.fresh O.st).st).below hb, O.ad, below_step O.below hb, fun q hq => ?_⟩
  unfold G.fresh
  simp only
  rw [if_neg (by omega)]
  exact O.own q hq
/-- A row of commands, opened. -/
theorem row_open {v : Value} {l : List Cmd} (h : W.ownsRow 0 44 4 v l.length (l.flatMap Cmd.cells)) : ∃ a cap, v = .slice a l.length cap ∧ l.length ≤ cap ∧ ∀ k c, l[k]? = some c → ∃ q, a = some ⟨q, 0, none⟩ ∧ v.ownBlock = some q ∧ q < W.heap.size ∧
    ∀ W' : World, W'.heap[q]? = W.heap[q]? → W'.cell? ⟨q, 4 * k, none⟩ = some (.bool c.boot) ∧ W'.cell? ⟨q, 4 * k + 1, none⟩ = some (.int .i64 c.box) ∧ W'.cell? ⟨q, 4 * k + 2, none⟩ = some (.int .i64 c.fn) ∧ W'.cell? ⟨q, 4 * k + 3, none⟩ = some (.int .i64 c.host) := by
  rcases h.2 with ⟨h1, h2⟩ | ⟨q, cap, cur, h1, _, h3, h4, _, h6, h7⟩
  · refine ⟨none, 0, by rw [h2]; exact h1, by omega, fun k c hk => ?_⟩
    rw [List.length_eq_zero_iff.1 h2] at hk
    cases hk
  · refine ⟨_, cap, h1, h4, fun k c hk => ⟨q, rfl, by rw [h1]; rfl, ?_, fun W' hW' => ?_⟩⟩
    · exact Blk.lt (t := 44) (cs := cur) h3
    · have hkl : k < l.length := by
        rcases Nat.lt_or_ge k l.length with h | h
        · exact h
        · rw [List.getElem?_eq_none h] at hk; cases hk
      have hb : Blk W' q 44 cur := hW'.trans h3
      have hflat : ∀ (l : List Cmd) (k : Nat) (c : Cmd) (j : Nat), l[k]? = some c → j < 4 → (l.flatMap Cmd.cells)[4 * k + j]? = (Cmd.cells c)[j]? := by
        intro l
        induction l with
        | nil => intro k c j hk; cases hk
        | cons d r ih =>
          intro k c j hk hj
          have hd : (Cmd.cells d).length = 4 := rfl
          cases k with
          | zero =>
            cases hk
            rw [List.flatMap_cons, List.getElem?_append_left (by rw [hd]; omega)]
            simp
          | succ m =>
            rw [List.flatMap_cons, List.getElem?_append_right (by rw [hd]; omega), hd, show 4 * (m + 1) + j - 4 = 4 * m + j by omega]
            exact ih m c j hk hj
      have hcell : ∀ j, j < 4 → W'.cell? ⟨q, 4 * k + j, none⟩ = (Cmd.cells c)[j]? := fun j hj => by
        rw [hb.cell, ← Array.getElem?_toList, ← hflat l k c j hk hj, ← h7, List.getElem?_take, if_pos (by omega)]
      exact ⟨hcell 0 (by omega), hcell 1 (by omega), hcell 2 (by omega), hcell 3 (by omega)⟩
end
set_option maxRecDepth 100000 in
set_option maxHeartbeats 8000000 in
theorem head_any (w : World) : Calls Tryz.prog 4 #[] w (fun e w' => e = .returned (.bool true) ∧ Below w.heap.size w w') := by
  obtain ⟨a1, o1, s1, a2, o2, s2, a3, o3, s3, s4, o5, s5, h1, h2, h3, h4, h5⟩ := head_steps
  have D1 := Lib.hid (fun (W : World) (g : G) (p : Nat) (O : One w W g Core.new p) => do_any O.st O.ad h1)
  have D2 := Lib.hid (fun (W : World) (g : G) (p : Nat) (O : One w W g s1 p) => do_any O.st O.ad h2)
  have D3 := Lib.hid (fun (W : World) (g : G) (p : Nat) (O : One w W g s2 p) => do_any O.st O.ad h3)
  have D4 := Lib.hid (fun (W : World) (g : G) (p : Nat) (O : One w W g s3 p) => do_any O.st O.ad h4)
  have D5 := Lib.hid (fun (W : World) (g : G) (p : Nat) (O : One w W g s4 p) => do_any O.st O.ad h5)
  unfold Ev.val Done2 at D1 D2 D3 D4 D5
  unfold Ans.val at D4 D5
  simp only at D1 D2 D3 D4 D5
  clear h1 h2 h3 h4 h5
  go_enter Tryz.func4, Tryz.ntmps4
  go_upto_region 4 with (go_at_call 5; refine (corenew_any _).mono ?_; rintro e w1 ⟨rfl, hm, hb⟩; have O1 := Lib.hid (One.new hm hb); clear hm hb; generalize w.heap.size + 10 = p at O1 ⊢)
  go_upto_region 5 with (go_at_call 7; refine (D1.out _ _ _ O1.out).mono ?_; rintro e w2 ⟨v1, g1, rfl, hd⟩; have O2 := Lib.hid (O1.out.did hd); clear hd)
  go_upto_region 6 with (go_at_call 7; refine (D2.out _ _ _ O2.out).mono ?_; rintro e w3 ⟨v2, g2, rfl, hd⟩; have O3 := Lib.hid (O2.out.did hd); clear hd)
  go_upto_region 7 with (go_at_call 7; refine (D3.out _ _ _ O3.out).mono ?_; rintro e w4 ⟨v3, g3, rfl, hd⟩; have O4 := Lib.hid (O3.out.did hd); clear hd)
  go_upto_region 8 with (go_at_call 7; refine (D4.out _ _ _ O4.out).mono ?_; rintro e w5 ⟨v4, g4, rfl, hd⟩; obtain ⟨va, cap, hv, hcap, hrow⟩ := row_open hd.row; subst hv; have O5 := Lib.hid (O4.out.did hd); have HD := Lib.hid hd; have HROW := Lib.hid (hrow 0 _ rfl); have HCAP := Lib.hid hcap; clear hd hrow hcap)
  have hbA := (Below.refl w5.heap.size w5).alloc (Nat.le_refl _) (.cells #[.int .i64 3, .int .i64 1, .int .i64 0, .int .i64 0] 34)
  have hkA := Blk.new w5 34 #[.int .i64 3, .int .i64 1, .int .i64 0, .int .i64 0]
  have O6 := Lib.hid (O5.out.grow hbA)
  have hoA : (g4.fresh w5.heap.size).own w5.heap.size = .none := fresh_own (Nat.le_refl _)
  obtain ⟨q, rfl, hqo, hql, hqc⟩ := HROW.out
  have hqg : (g4.fresh w5.heap.size).own q = .out := by unfold G.fresh; simp only; rw [if_neg (by omega)]; exact (HD.out.tag q hqo).2.2
  have hq6 : (w5.alloc (.cells #[.int .i64 3, .int .i64 1, .int .i64 0, .int .i64 0] 34)).heap[q]? = w5.heap[q]? := hbA.block q hql
  have hz6 : w5.heap.size < (w5.alloc (.cells #[.int .i64 3, .int .i64 1, .int .i64 0, .int .i64 0] 34)).heap.size := by rw [World.size_alloc]; omega
  have HQC := Lib.hid (And.intro hql (And.intro hq6 hqc))
  have HKA := Lib.hid (And.intro hkA hoA)
  have HQG := Lib.hid (And.intro hqg hz6)
  clear hbA hkA hoA hqo hql hqc hqg hq6 hz6 HROW HD
  generalize g4.fresh w5.heap.size = g6 at O6 HKA HQG
  generalize w5.alloc _ = w6 at O6 HKA HQC HQG ⊢
  obtain ⟨B4, hB4⟩ : ∃ B, B = w5.heap.size := ⟨_, rfl⟩
  rw [← hB4] at HKA ⊢
  have HB4 := Lib.hid hB4
  clear hB4
  go_upto_region 9 with (go_at_call 7; refine (D5.out _ _ _ O6.out).mono ?_; rintro e w7 ⟨v5, g7, rfl, hd⟩; have O7 := Lib.hid (O6.out.did hd); have hk7 := (hd.block B4 HKA.out.1.lt (.inl HKA.out.2)).trans HKA.out.1; have hq7 := (hd.block q (by have := HQC.out.1; have := HQG.out.2; omega) (.inr HQG.out.1)).trans HQC.out.2.1; have HK7 := Lib.hid hk7; have HQ7 := Lib.hid (And.intro hq7 hd.size); clear hd hk7 hq7)
  have hk8 : Blk (w7.alloc (.cells #[.int .i64 4, .int .i64 0, .int .i64 2, .int .i64 0] 34)) B4 34 #[.int .i64 3, .int .i64 1, .int .i64 0, .int .i64 0] := Blk.alloc HK7.out _
  have hq8 : (w7.alloc (.cells #[.int .i64 4, .int .i64 0, .int .i64 2, .int .i64 0] 34)).heap[q]? = w5.heap[q]? := (Below.heap_alloc _ _ q (by have := HQC.out.1; have := HQG.out.2; have := HQ7.out.2; omega)).trans HQ7.out.1
  obtain ⟨r0, r1, r2, r3⟩ := HQC.out.2.2 _ hq8
  have f0 := hk8.cell 0
  have f1 := hk8.cell 1
  have f2 := hk8.cell 2
  have f3 := hk8.cell 3
  have hcap := HCAP.out
  simp at r0 r1 r2 r3 f0 f1 f2 f3 hcap
  have hb8 := O7.out.below.alloc O7.out.below.size (.cells #[.int .i64 4, .int .i64 0, .int .i64 2, .int .i64 0] 34)
  have HB8 := Lib.hid hb8
  clear hk8 hq8 hb8
  go_wp2
  go_ret
  exact ⟨rfl, HB8.out⟩
end Go.Proofs.YtjmdgicdpggljaaGreat.GH

/- Proved: law 18's Same and Mild. -/
namespace Go.Proofs.YtjmdgicdpggljaaGreat.GH
open Go.RowKit Go.Maps Go.Sort Go.Shelf Go.Proofs.YtjmdgicdpggljaaGreat.Histo Go.Proofs.YtjmdgicdpggljaaGreat.Event Go.Proofs.YtjmdgicdpggljaaGreat.Ring
set_option linter.unusedVariables false
attribute [local go_sem] Oper.semAt_some
theorem mild_any (e : Ev) (w : World) : Calls Tryz.prog 6 #[e.val] w (fun r w' => r = .returned (.bool (decide (e.keep ≤ 40))) ∧ Below w.heap.size w w') := by
  obtain ⟨k, a1, a2, a3, a4, a5, a6, a7, a8, ke⟩ := e
  unfold Ev.val
  simp only
  go_enter Tryz.func6, Tryz.ntmps6
  go_wp2
  go_ret
  exact ⟨rfl, (Below.refl _ _).alloc (Nat.le_refl _) _⟩
/-- A row of commands that lies there. -/
def RowIs (W : World) (v : Value) (l : List Cmd) : Prop := ∃ a cap, v = .slice a l.length cap ∧ l.length ≤ cap ∧ ∀ k c, l[k]? = some c → ∃ q, a = some ⟨q, 0, none⟩ ∧
    W.cell? ⟨q, 4 * k, none⟩ = some (.bool c.boot) ∧ W.cell? ⟨q, 4 * k + 1, none⟩ = some (.int .i64 c.box) ∧ W.cell? ⟨q, 4 * k + 2, none⟩ = some (.int .i64 c.fn) ∧ W.cell? ⟨q, 4 * k + 3, none⟩ = some (.int .i64 c.host)
set_option maxRecDepth 100000 in
set_option maxHeartbeats 8000000 in
theorem same_any (x y : Value) (l : List Cmd) (W : World) (hl : l.length ≤ 4398046511104) (hx : RowIs W x l) (hy : RowIs W y l) : Calls Tryz.prog 8 #[x, y] W (fun r w' => r = .returned (.bool true) ∧ Below W.heap.size W w') := by
  obtain ⟨a, ca, rfl, hca, ha⟩ := hx
  obtain ⟨b, cb, rfl, hcb, hb⟩ := hy
  obtain ⟨n, hn⟩ : ∃ n, n = l.length := ⟨_, rfl⟩
  rw [← hn] at hca hcb hl ⊢
  have HA := Lib.hid ha
  have HB := Lib.hid hb
  have HN := Lib.hid hn
  clear ha hb hn
  go_enter Tryz.func8, Tryz.ntmps8
  go_wp2
  go_loopw [13] (fun i wr => ∃ k : Nat, k ≤ n ∧ i = .int .i64 k ∧ ∃ m, wr = W.drewN m) (fun i _ => n - (intOf i).toNat)
  case atStart => exact ⟨0, by omega, rfl, 0, rfl⟩
  case round =>
    obtain ⟨k, hk, rfl, m, hm⟩ := hrel
    by_cases hlt : k < n
    · have hlk : l[k]? = some (l[k]'(by rw [← HN.out]; exact hlt)) := List.getElem?_eq_getElem _
      obtain ⟨c, hc⟩ : ∃ c, c = l[k]'(by rw [← HN.out]; exact hlt) := ⟨_, rfl⟩
      rw [← hc] at hlk
      obtain ⟨qa, rfl, a0, a1, a2, a3⟩ := HA.out k c hlk
      obtain ⟨qb, rfl, b0, b1, b2, b3⟩ := HB.out k c hlk
      obtain ⟨c0, c1, c2, c3⟩ := c
      simp only at a0 a1 a2 a3 b0 b1 b2 b3
      have hz : (k : Int) < (n : Int) := by omega
      have HM := Lib.hid hm
      have e0 : wr.cell? ⟨qa, k * 4, none⟩ = some (.bool c0) := by rw [hm, Nat.mul_comm]; exact a0
      have e1 : wr.cell? ⟨qa, k * 4 + 1, none⟩ = some (.int .i64 c1) := by rw [hm, Nat.mul_comm]; exact a1
      have e2 : wr.cell? ⟨qa, k * 4 + 2, none⟩ = some (.int .i64 c2) := by rw [hm, Nat.mul_comm]; exact a2
      have e3 : wr.cell? ⟨qa, k * 4 + 3, none⟩ = some (.int .i64 c3) := by rw [hm, Nat.mul_comm]; exact a3
      have f0 : wr.cell? ⟨qb, k * 4, none⟩ = some (.bool c0) := by rw [hm, Nat.mul_comm]; exact b0
      have f1 : wr.cell? ⟨qb, k * 4 + 1, none⟩ = some (.int .i64 c1) := by rw [hm, Nat.mul_comm]; exact b1
      have f2 : wr.cell? ⟨qb, k * 4 + 2, none⟩ = some (.int .i64 c2) := by rw [hm, Nat.mul_comm]; exact b2
      have f3 : wr.cell? ⟨qb, k * 4 + 3, none⟩ = some (.int .i64 c3) := by rw [hm, Nat.mul_comm]; exact b3
      clear a0 a1 a2 a3 b0 b1 b2 b3 hlk hc hm
      go_wp2
      go_quiet (fail)
      go_wp2
      go_roundw
      case rel => exact ⟨k + 1, by omega, by go_num, ⟨m + nq, by rw [HM.out]; simp [World.drewN, Nat.add_assoc]⟩⟩
      case measure => simp [intOf]; omega
    · have hz : ¬ ((k : Int) < (n : Int)) := by omega
      have HM := Lib.hid hm
      clear hm
      go_wp2
      go_ret
      exact ⟨rfl, by rw [HM.out]; exact below_drewN (Below.refl _ W) m⟩
end Go.Proofs.YtjmdgicdpggljaaGreat.GH
