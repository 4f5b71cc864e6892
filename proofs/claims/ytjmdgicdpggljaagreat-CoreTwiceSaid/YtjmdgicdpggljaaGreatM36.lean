/- Proved: what tally.Count's Add answers and leaves, in a run of one goroutine. -/
import Derived.Test.YtjmdgicdpggljaaGreatM35
import Derived.Test.YtjmdgicdpggljaaGreatM01
set_option linter.all false
namespace Go.Proofs.YtjmdgicdpggljaaGreat.GH
open Go.RowKit Go.Proofs.YtjmdgicdpggljaaGreat.Histo Go.Proofs.YtjmdgicdpggljaaGreat.Event
set_option linter.unusedVariables false

theorem aload_any (b off : Nat) (n : Int) (w : World) (hc : w.cell? ⟨b, off, none⟩ = some (.int .i64 n)) : Calls Tryz.prog 32 #[.pointer (some ⟨b, off, none⟩)] w (fun e w' => e = .returned (.int .i64 n) ∧ w = w') := by
  have hl := run_call_load (P := Tryz.prog) Tryz.func75 (by kernel_rfl) (by kernel_rfl) (by kernel_rfl) .i64 (by kernel_rfl) hc
  go_enter Tryz.func32, Tryz.ntmps32
  go_wp2
  go_ret
  exact ⟨rfl, rfl⟩
theorem sat_one {n : Int} (h0 : 0 ≤ n) (h1 : n < 4611686018427387904) : Num.sat (n + 1) = n + 1 := by
  unfold Num.sat
  rw [if_neg (by omega), if_neg (by omega)]
set_option maxRecDepth 100000 in
set_option maxHeartbeats 1000000 in
theorem tadd_any (b off : Nat) (n : Int) (w : World) (hc : w.cell? ⟨b, off, none⟩ = some (.int .i64 n)) (hf : w.frozen? ⟨b, off, none⟩ = false) (hn : 0 ≤ n ∧ n < 4611686018427387904) :
    Calls Tryz.prog 16 #[.pointer (some ⟨b, off, none⟩), .int .i64 1] w fun e w' => e = .returned (.int .i64 (n + 1)) ∧ w' = w.setCell ⟨b, off, none⟩ (.int .i64 (n + 1)) := by
  have hl := run_call_load (P := Tryz.prog) Tryz.func75 (by kernel_rfl) (by kernel_rfl) (by kernel_rfl) .i64 (by kernel_rfl) hc
  have ca : ∀ w, Calls Tryz.prog 33 #[.int .i64 n, .int .i64 1] w (fun e w' => e = .returned (.int .i64 (n + 1)) ∧ w = w') := fun w => by
    refine (Num.add_any n 1 w ⟨by omega, by omega⟩ ⟨by decide, by decide⟩).mono ?_
    rintro e w' ⟨rfl, rfl⟩
    refine ⟨?_, rfl⟩
    congr 2
    exact sat_one hn.1 hn.2
  generalize n + 1 = s at *
  have hs := run_call_cas_hit (P := Tryz.prog) Tryz.func76 (by kernel_rfl) (by kernel_rfl) (by kernel_rfl) .i64 (by kernel_rfl) (y := s) hc hf
  have Ca := Lib.hid ca
  clear ca hn
  go_enter Tryz.func16, Tryz.ntmps16
  go_wp2
  refine wp_loop_rounds 1 ?_
  rw [rounds_succ]
  go_wp2_with (first | (go_at_call 33; refine (Ca.out _).mono ?_; rintro e w' ⟨rfl, rfl⟩) | go_in)
  go_ret
  exact ⟨rfl, rfl⟩
end Go.Proofs.YtjmdgicdpggljaaGreat.GH

/- Proved: what Do's own stores leave of the core; which kinds of answers there are. -/
namespace Go.Proofs.YtjmdgicdpggljaaGreat.GH
open Go.RowKit Go.Maps Go.Sort Go.Shelf Go.Proofs.YtjmdgicdpggljaaGreat.Histo Go.Proofs.YtjmdgicdpggljaaGreat.Event Go.Proofs.YtjmdgicdpggljaaGreat.Ring
set_option linter.unusedVariables false
open Go.Proofs.YtjmdgicdpggljaaGreat.MapI (AL At Rng W64)
attribute [local go_sem] Oper.semAt_some

theorem told_kind {q : Option (Int × Core)} {a : Ans} {s' : Core} (h : Core.told q = some (a, s')) : 0 ≤ a.kind ∧ a.kind < 5 := by
  obtain ⟨r, _, h2⟩ := told_some h
  rcases h2 with ⟨_, rfl⟩ | ⟨_, rfl⟩
  · exact ⟨by show (0 : Int) ≤ 1; decide, by show (1 : Int) < 5; decide⟩
  · exact ⟨by show (0 : Int) ≤ 0; decide, by show (0 : Int) < 5; decide⟩
theorem call_kind {s s' : Core} {f : Int} {a : Ans} (h : s.call f = some (a, s')) : 0 ≤ a.kind ∧ a.kind < 5 := by
  unfold Core.call at h
  repeat' split at h
  all_goals first
    | (cases h; constructor <;> (first | (show (0 : Int) ≤ 1; decide) | (show (1 : Int) < 5; decide) | (show (0 : Int) ≤ 4; decide) | (show (4 : Int) < 5; decide)); done)
    | (cases h; done)
    | (obtain ⟨u, _, e⟩ := Option.map_eq_some_iff.1 h; cases e; constructor <;> (first | (show (0 : Int) ≤ 2; decide) | (show (2 : Int) < 5; decide) | (show (0 : Int) ≤ 3; decide) | (show (3 : Int) < 5; decide)))
theorem act_kind {s s' : Core} {e : Ev} {a : Ans} (h : s.act e = some (a, s')) : 0 ≤ a.kind ∧ a.kind < 5 := by
  unfold Core.act at h
  repeat' split at h
  all_goals first | exact told_kind h | exact call_kind h
section
variable {w : World} {g : G} {s : Core} {p : Nat}
theorem To.outNil (st : St w g s) (hp : g.ad .core = p) : To w g s (w.setCell ⟨p, 10, none⟩ (.slice none 0 0)) g { s with out := [] } := by
  subst hp
  obtain ⟨ov, m⟩ := st.mem
  have s1 : Step (fun t => t = .core ∨ t = .out) w g (w.setCell ⟨g.ad .core, 10, none⟩ (.slice none 0 0)) g := Step.of_grown (only_setCell (only_refl _ (some (g.ad .core))) (.inl rfl) _) (fun k e => by cases e; exact .inl m.core.lv.own)
  have hb := m.core.blk.set_ 10 (.slice none 0 0)
  have gd := st.good
  refine To.of (m.turn s1 { s with out := [] } (.slice none 0 0) (fun _ _ => rfl) (core := .inr ⟨⟨m.core.lv.own, Nat.lt_of_lt_of_le m.core.lv.lt s1.size⟩, hb⟩) (out := .inr ⟨World.ownsRow_nil _ _ _ _, fun q hq => by cases hq⟩)) ⟨gd.now, gd.next, gd.toks, gd.fns, gd.caches, gd.boxes, gd.til, gd.ans, ?_⟩ s1 (by simp) (fun _ _ => rfl) (fun t ht => ht)
  have := gd.outs
  show ((([] : List Cmd).length + s.boxes.length : Nat) : Int) ≤ 2 * s.next
  simp only [List.length_nil]
  omega
theorem St.ansCell (st : St w g s) (hp : g.ad .core = p) {k : Nat} (hk : k < 5) : w.cell? ⟨p, 11 + k, none⟩ = some (.int .i64 (s.ans.getD k 0)) := by
  subst hp
  obtain ⟨ov, m⟩ := st.mem
  have h := m.core.blk.cell (11 + k)
  rw [h]
  have ha := m.ans
  obtain ⟨a0, a1, a2, a3, a4, e⟩ : ∃ a0 a1 a2 a3 a4, s.ans = [a0, a1, a2, a3, a4] := by
    rcases e : s.ans with _ | ⟨a0, _ | ⟨a1, _ | ⟨a2, _ | ⟨a3, _ | ⟨a4, _ | ⟨a5, r⟩⟩⟩⟩⟩⟩ <;> rw [e] at ha <;> simp at ha
    exact ⟨a0, a1, a2, a3, a4, rfl⟩
  unfold Core.cells
  rw [e]
  have : k = 0 ∨ k = 1 ∨ k = 2 ∨ k = 3 ∨ k = 4 := by omega
  rcases this with rfl | rfl | rfl | rfl | rfl <;> rfl
theorem To.count (st : St w g s) (hp : g.ad .core = p) {k : Nat} (hk : k < 5) (hlt : s.ans.getD k 0 < 4611686018427387904) : To w g s (w.setCell ⟨p, 11 + k, none⟩ (.int .i64 (s.ans.getD k 0 + 1))) g { s with ans := s.ans.set k (s.ans.getD k 0 + 1) } := by
  subst hp
  obtain ⟨ov, m⟩ := st.mem
  have s1 : Step (fun t => t = .core) w g (w.setCell ⟨g.ad .core, 11 + k, none⟩ (.int .i64 (s.ans.getD k 0 + 1))) g := Step.of_grown (only_setCell (only_refl _ (some (g.ad .core))) (.inl rfl) _) (fun k e => by cases e; exact m.core.lv.own)
  have hb := m.core.blk.set_ (11 + k) (.int .i64 (s.ans.getD k 0 + 1))
  have gd := st.good
  have ha := m.ans
  obtain ⟨a0, a1, a2, a3, a4, e⟩ : ∃ a0 a1 a2 a3 a4, s.ans = [a0, a1, a2, a3, a4] := by
    rcases e : s.ans with _ | ⟨a0, _ | ⟨a1, _ | ⟨a2, _ | ⟨a3, _ | ⟨a4, _ | ⟨a5, r⟩⟩⟩⟩⟩⟩ <;> rw [e] at ha <;> simp at ha
    exact ⟨a0, a1, a2, a3, a4, rfl⟩
  have hcells : (s.cells g ov).setIfInBounds (11 + k) (.int .i64 (s.ans.getD k 0 + 1)) = Core.cells { s with ans := s.ans.set k (s.ans.getD k 0 + 1) } g ov := by
    unfold Core.cells
    simp only [e]
    have : k = 0 ∨ k = 1 ∨ k = 2 ∨ k = 3 ∨ k = 4 := by omega
    rcases this with rfl | rfl | rfl | rfl | rfl <;> rfl
  rw [hcells] at hb
  refine To.of (m.turn s1 { s with ans := s.ans.set k (s.ans.getD k 0 + 1) } ov (fun _ _ => rfl) (core := .inr ⟨⟨m.core.lv.own, Nat.lt_of_lt_of_le m.core.lv.lt s1.size⟩, hb⟩) (ans := by show (s.ans.set k _).length = 5; rw [List.length_set]; exact ha)) ⟨gd.now, gd.next, gd.toks, gd.fns, gd.caches, gd.boxes, gd.til, fun x hx => ?_, gd.outs⟩ s1 (by simp) (fun _ _ => rfl) (fun t ht => ht)
  have hx2 : x ∈ s.ans.set k (s.ans.getD k 0 + 1) := hx
  rcases List.mem_or_eq_of_mem_set hx2 with h | h
  · exact gd.ans x h
  · have hm : s.ans.getD k 0 ∈ s.ans := by
      rw [List.getD_eq_getElem?_getD, List.getElem?_eq_getElem (by omega)]
      exact List.getElem_mem _
    have := gd.ans _ hm
    omega
end
end Go.Proofs.YtjmdgicdpggljaaGreat.GH

/- Proved: when the core's commands are let go, the row that held them is nobody's, and stays as it is. -/
namespace Go.Proofs.YtjmdgicdpggljaaGreat.GH
open Go.RowKit Go.Proofs.YtjmdgicdpggljaaGreat.Histo Go.Proofs.YtjmdgicdpggljaaGreat.Event Go.Proofs.YtjmdgicdpggljaaGreat.Ring
set_option linter.unusedVariables false
/-- The commands' row is nobody's. -/
def G.drop (g : G) : G := ⟨g.ad, fun p => match g.own p with | .out => .none | t => t⟩
section
variable {w : World} {g : G} {s : Core}
theorem G.drop_own {g : G} {p : Nat} {t : Tag} (h : g.own p = t) (hn : t ≠ .out) : g.drop.own p = t := by
  unfold G.drop
  simp only
  rw [h]
  cases t <;> first | rfl | exact absurd rfl hn
theorem G.drop_out {g : G} {p : Nat} (h : g.own p = .out) : g.drop.own p = .none := by
  unfold G.drop
  simp only
  rw [h]
theorem G.drop_no (g : G) (p : Nat) : g.drop.own p ≠ .out := by
  unfold G.drop
  simp only
  cases g.own p <;> simp
theorem G.drop_cases (g : G) (p : Nat) : g.drop.own p = g.own p ∨ (g.own p = .out ∧ g.drop.own p = .none) := by
  by_cases h : g.own p = .out
  · exact .inr ⟨h, G.drop_out h⟩
  · exact .inl (G.drop_own rfl h)
theorem Lv.drop {t : Tag} (h : Lv w g t) (hn : t ≠ .out) : Lv w g.drop t := ⟨G.drop_own h.own hn, h.lt⟩
theorem Nm.drop {t : Tag} {ty : TypeId} {cs : Array Value} (h : Nm w g t ty cs) (hn : t ≠ .out) : Nm w g.drop t ty cs := ⟨h.lv.drop hn, h.blk⟩
theorem RowTag.drop {t : Tag} {v : Value} (h : RowTag w g t v) (hn : t ≠ .out) : RowTag w g.drop t v := fun q hq => ⟨(h q hq).1.drop hn, (h q hq).2⟩
theorem Mem.drop (m : Mem w g { s with out := [] } (.slice none 0 0)) : Mem w g.drop { s with out := [] } (.slice none 0 0) where
  core := m.core.drop (by simp)
  out := ⟨m.out.row, fun q hq => by cases hq⟩
  quota := m.quota.drop (by simp)
  qok := m.qok
  toks := ⟨m.toks.lv.drop (by simp), m.toks.map, fun a b h => (m.toks.each a b h).drop (by simp)⟩
  fns := ⟨m.fns.lv.drop (by simp), m.fns.map, fun f x h => ⟨(m.fns.each f x h).blk.drop (by simp), (m.fns.each f x h).hist.drop (by simp), (m.fns.each f x h).ok, (m.fns.each f x h).rlv.drop (by simp), (m.fns.each f x h).ring⟩⟩
  hosts := m.hosts.drop (by simp)
  hok := m.hok
  caches := ⟨m.caches.lv.drop (by simp), m.caches.map, fun h c e => by
    have k := m.caches.each h c e
    obtain ⟨v, a, b⟩ := k.at_
    exact ⟨k.l1.drop (by simp), k.l2.drop (by simp), k.l3.drop (by simp), v, a, b.drop (by simp)⟩⟩
  boxes := ⟨m.boxes.lv.drop (by simp), m.boxes.map, fun a b h => (m.boxes.each a b h).drop (by simp)⟩
  til := ⟨m.til.lv.drop (by simp), m.til.map⟩
  timers := by
    obtain ⟨v, a, b⟩ := m.timers.at_
    exact ⟨m.timers.l1.drop (by simp), m.timers.l2.drop (by simp), m.timers.l3.drop (by simp), v, a, b.drop (by simp)⟩
  ans := m.ans
theorem St.letGo (st : St w g s) {p : Nat} (hp : g.ad .core = p) : St (w.setCell ⟨p, 10, none⟩ (.slice none 0 0)) g.drop { s with out := [] } := by
  have h := To.outNil st hp
  subst hp
  obtain ⟨ov0, m0⟩ := st.mem
  have c10 : (w.setCell ⟨g.ad .core, 10, none⟩ (.slice none 0 0)).cell? ⟨g.ad .core, 10, none⟩ = some (.slice none 0 0) := (m0.core.blk.set_ 10 (.slice none 0 0)).cell 10
  obtain ⟨ov, m⟩ := h.st.mem
  have c : (w.setCell ⟨g.ad .core, 10, none⟩ (.slice none 0 0)).cell? ⟨g.ad .core, 10, none⟩ = some ov := m.core.blk.cell 10
  rw [c10] at c
  cases c
  exact ⟨⟨_, m.drop⟩, h.st.good⟩
/-- What Do leaves of the core: new blocks; its own may have turned but for its last commands. -/
structure DidDo (w : World) (g : G) (p : Nat) (W : World) (g' : G) (t : Core) (ov : Value) (out : List Cmd) : Prop where
  st : St W g' t
  ad : g'.ad .core = p
  os : W.os = w.os
  tape : W.tape = w.tape
  output : W.output = w.output
  size : w.heap.size ≤ W.heap.size
  own : ∀ q, q < w.heap.size → g'.own q = g.own q ∨ (g.own q = .out ∧ g'.own q = .none)
  block : ∀ q, q < w.heap.size → g.own q = .none ∨ g.own q = .out → W.heap[q]? = w.heap[q]?
  row : W.ownsRow 0 44 4 ov out.length (out.flatMap Cmd.cells)
  tag : ∀ q, ov.ownBlock = some q → w.heap.size ≤ q ∧ q < W.heap.size ∧ g'.own q = .out
end
end Go.Proofs.YtjmdgicdpggljaaGreat.GH

/- Proved: what core's Do leaves and answers; its last commands' row stays as it is. -/
namespace Go.Proofs.YtjmdgicdpggljaaGreat.GH
open Go.RowKit Go.Maps Go.Sort Go.Shelf Go.Proofs.YtjmdgicdpggljaaGreat.Histo Go.Proofs.YtjmdgicdpggljaaGreat.Event Go.Proofs.YtjmdgicdpggljaaGreat.Ring
set_option linter.unusedVariables false
open Go.Proofs.YtjmdgicdpggljaaGreat.MapI (AL At Rng W64)
attribute [local go_sem] Oper.semAt_some

def Done2 (a : Ans) (out : List Cmd) (w : World) (g : G) (p : Nat) (t : Core) (e : Ending) (W : World) : Prop := ∃ ov g', e = .returned (.tuple #[a.val, ov]) ∧ DidDo w g p W g' t ov out
theorem did_end {w w3 w7 : World} {g g5 : G} {s0 t : Core} {p B2 : Nat} {ov : Value} {l : List Cmd} (hb3 : Below w.heap.size w w3) (hpo : g.own p = .core) (hB : w.heap.size ≤ B2) (hk : Blk w7 B2 34 #[.int .i64 0, .int .i64 0, .int .i64 0, .int .i64 0]) (ho : g5.own B2 = .none)
    (h : To (w3.setCell ⟨p, 10, none⟩ (.slice none 0 0)) g.drop s0 w7 g5 t) (hp5 : g5.ad .core = p) (hov : OutAt w7 g5 ov l) {B3 : Nat} {a0 : Value} (_hv : w7.cell? ⟨B3, 0, none⟩ = some a0) (a1 a2 a3 : Value) :
    ((put4 w7 B2 a0 a1 a2 a3).drew.cell? ⟨B2, 0, none⟩ = some a0 ∧ (put4 w7 B2 a0 a1 a2 a3).drew.cell? ⟨B2, 1, none⟩ = some a1 ∧ (put4 w7 B2 a0 a1 a2 a3).drew.cell? ⟨B2, 2, none⟩ = some a2 ∧ (put4 w7 B2 a0 a1 a2 a3).drew.cell? ⟨B2, 3, none⟩ = some a3) ∧
    DidDo w g p (put4 w7 B2 a0 a1 a2 a3).drew g5 t ov l := by
  have hb := (((hk.set_ 0 a0).set_ 1 a1).set_ 2 a2).set_ 3 a3
  have hg : w7.grownBy (put4 w7 B2 a0 a1 a2 a3) (some B2) := only_setCell (only_setCell (only_setCell (only_setCell (only_refl w7 (some B2)) (.inl rfl) _) (.inl rfl) _) (.inl rfl) _) (.inl rfl) _
  have s1 : Step (fun t => t = .none) w7 g5 (put4 w7 B2 a0 a1 a2 a3) g5 := Step.of_grown hg (fun k e => by cases e; exact ho)
  have h9 := hov.step s1 (by simp)
  have h8 : OutAt (put4 w7 B2 a0 a1 a2 a3).drew g5 ov l := h9.step (Step.refl (fun t => t = .none) _ _).drew (by simp)
  have h4 : w3.grownBy (w3.setCell ⟨p, 10, none⟩ (.slice none 0 0)) (some p) := only_setCell (only_refl w3 (some p)) (.inl rfl) _
  have z3 := hb3.size
  have z4 := h4.size
  have z7 := h.step.size
  have z9 := hg.size
  have hown : ∀ q, q < w.heap.size → g5.own q = g.drop.own q := fun q hq => h.own (by omega)
  refine ⟨⟨hb.drew.cell 0, hb.drew.cell 1, hb.drew.cell 2, hb.drew.cell 3⟩, (h.st.turned ho hg).drew, hp5, ?_, ?_, ?_, ?_, fun q hq => ?_, fun q hq hn => ?_, h8.row, fun q hq => ?_⟩
  · exact ((hg.os.trans h.step.os).trans h4.os).trans hb3.os
  · exact ((hg.tape.trans h.step.tape).trans h4.tape).trans hb3.tape
  · exact ((hg.output.trans h.step.output).trans h4.output).trans hb3.output
  · show w.heap.size ≤ (put4 w7 B2 a0 a1 a2 a3).heap.size
    omega
  · rw [hown q hq]
    exact G.drop_cases g q
  · have hd : g.drop.own q = .none := by
      rcases hn with h | h
      · exact G.drop_own h (by simp)
      · exact G.drop_out h
    have e1 : (put4 w7 B2 a0 a1 a2 a3).heap[q]? = w7.heap[q]? := hg.block q (by omega) (fun e => by injection e with e; omega)
    have e2 : w7.heap[q]? = (w3.setCell ⟨p, 10, none⟩ (.slice none 0 0)).heap[q]? := h.block (by omega) hd
    have e3 : (w3.setCell ⟨p, 10, none⟩ (.slice none 0 0)).heap[q]? = w3.heap[q]? := h4.block q (by omega) (fun e => by injection e with e; subst e; rcases hn with h | h <;> rw [hpo] at h <;> cases h)
    exact ((e1.trans e2).trans e3).trans (hb3.block q hq)
  · obtain ⟨l1, l2⟩ := h8.tag q hq
    have ho2 : g5.own q = .out := by rw [l2]; exact l1.own
    have hl : q < (put4 w7 B2 a0 a1 a2 a3).drew.heap.size := by rw [l2]; exact l1.lt
    refine ⟨?_, hl, ho2⟩
    rcases Nat.lt_or_ge q w.heap.size with h | h
    · have := hown q h
      rw [ho2] at this
      exact absurd this.symm (G.drop_no g q)
    · exact h
theorem did_no {w w3 : World} {g : G} {s : Core} {p B2 : Nat} (st : St w g s) (hp : g.ad .core = p) (hb3 : Below w.heap.size w w3) (hB : w.heap.size ≤ B2) (ho : g.own B2 = .none) (a0 a1 a2 a3 : Value) : DidDo w g p (put4 w3 B2 a0 a1 a2 a3) g s (.slice none 0 0) [] := by
  have hg : w3.grownBy (put4 w3 B2 a0 a1 a2 a3) (some B2) := only_setCell (only_setCell (only_setCell (only_setCell (only_refl w3 (some B2)) (.inl rfl) _) (.inl rfl) _) (.inl rfl) _) (.inl rfl) _
  have z3 := hb3.size
  have z9 := hg.size
  exact ⟨(st.below hb3).turned ho hg, hp, hg.os.trans hb3.os, hg.tape.trans hb3.tape, hg.output.trans hb3.output, by omega, fun q hq => .inl rfl, fun q hq _ => (hg.block q (by omega) (fun e => by injection e with e; omega)).trans (hb3.block q hq), World.ownsRow_nil _ _ _ _, fun q hq => by cases hq⟩
set_option maxRecDepth 100000 in
set_option maxHeartbeats 8000000 in
theorem do_no {w : World} {g : G} {s : Core} {p : Nat} {k n lim sz rf ac me co re ke : Int} (hfr : ∀ k, w.heap.size ≤ k → g.own k = .none) (st : St w g s) (hp : g.ad .core = p) (hr : Ev.right ⟨k, n, lim, sz, rf, ac, me, co, re, ke⟩ = false) : Calls Tryz.prog 7 #[vptr p, (Ev.val ⟨k, n, lim, sz, rf, ac, me, co, re, ke⟩)] w (Done2 ⟨1, 0, 0, 1⟩ [] w g p s) := by
  have H0 := Lib.hid (act0 hfr st #[.int .i64 k, .int .i64 n, .int .i64 lim, .int .i64 sz, .int .i64 rf, .int .i64 ac, .int .i64 me, .int .i64 co, .int .i64 re, .int .i64 ke])
  have HR := Lib.hid fun W => right_any ⟨k, n, lim, sz, rf, ac, me, co, re, ke⟩ W
  rw [hr] at HR
  unfold Ev.val at HR ⊢
  unfold Done2 Ans.val
  simp only at HR ⊢
  have HST := Lib.hid (And.intro st hp)
  clear hfr st hr hp
  go_enter Tryz.func7, Tryz.ntmps7
  go_upto_region 1 with (fail)
  generalize (w.alloc (.cells #[.int .i64 k, .int .i64 n, .int .i64 lim, .int .i64 sz, .int .i64 rf, .int .i64 ac, .int .i64 me, .int .i64 co, .int .i64 re, .int .i64 ke] 28)).alloc (.cells #[.int .i64 0, .int .i64 0, .int .i64 0, .int .i64 0] 34) = w2 at H0 ⊢
  obtain ⟨B1, hB1⟩ : ∃ B, B = w.heap.size := ⟨_, rfl⟩
  obtain ⟨B2, hB2⟩ : ∃ B, B = w.heap.size + 1 := ⟨_, rfl⟩
  rw [← hB2, ← hB1] at H0 ⊢
  clear hB1 hB2
  have e0 : w2.cell? ⟨B1, 0, none⟩ = some (.int .i64 k) := H0.out.b1.cell 0
  have e1 : w2.cell? ⟨B1, 1, none⟩ = some (.int .i64 n) := H0.out.b1.cell 1
  have e2 : w2.cell? ⟨B1, 2, none⟩ = some (.int .i64 lim) := H0.out.b1.cell 2
  have e3 : w2.cell? ⟨B1, 3, none⟩ = some (.int .i64 sz) := H0.out.b1.cell 3
  have e4 : w2.cell? ⟨B1, 4, none⟩ = some (.int .i64 rf) := H0.out.b1.cell 4
  have e5 : w2.cell? ⟨B1, 5, none⟩ = some (.int .i64 ac) := H0.out.b1.cell 5
  have e6 : w2.cell? ⟨B1, 6, none⟩ = some (.int .i64 me) := H0.out.b1.cell 6
  have e7 : w2.cell? ⟨B1, 7, none⟩ = some (.int .i64 co) := H0.out.b1.cell 7
  have e8 : w2.cell? ⟨B1, 8, none⟩ = some (.int .i64 re) := H0.out.b1.cell 8
  have e9 : w2.cell? ⟨B1, 9, none⟩ = some (.int .i64 ke) := H0.out.b1.cell 9
  go_wp2_with (go_at_call 14; refine (HR.out _).mono ?_; rintro e w3 ⟨rfl, hb3⟩; have HF := Lib.hid (H0.out.fin (To.below H0.out.to_.st hb3)); have HB3 := Lib.hid hb3; clear hb3; obtain ⟨⟨d0, d1, d2, d3⟩, z0, z1, z2, z3⟩ := HF.out.cells)
  obtain ⟨⟨r0, r1, r2, r3⟩, _⟩ := HF.out.put H0.out.h2 (.int .i64 1) (.int .i64 0) (.int .i64 0) (.int .i64 1)
  have hd := did_no HST.out.1 HST.out.2 (below_step H0.out.below HB3.out) H0.out.h2 H0.out.o2 (.int .i64 1) (.int .i64 0) (.int .i64 0) (.int .i64 1)
  unfold put4 at r0 r1 r2 r3 hd
  exact bodyPost_ret (v := .tuple #[.agg #[.int .i64 1, .int .i64 0, .int .i64 0, .int .i64 1], .slice none 0 0]) (by simp [results, Tryz.results7, go_sem, r0, r1, r2, r3]) rfl ⟨_, g, rfl, hd⟩
set_option maxRecDepth 100000 in
set_option maxHeartbeats 8000000 in
theorem do_yes {w : World} {g : G} {s t : Core} {p : Nat} {a : Ans} {k n lim sz rf ac me co re ke : Int} (hfr : ∀ k, w.heap.size ≤ k → g.own k = .none) (st : St w g s) (hp : g.ad .core = p) (hr : Ev.right ⟨k, n, lim, sz, rf, ac, me, co, re, ke⟩ = true) (hs : ({ s with out := [] } : Core).act ⟨k, n, lim, sz, rf, ac, me, co, re, ke⟩ = some (a, t)) (hlt : t.ans.getD a.kind.toNat 0 < 4611686018427387904) : Calls Tryz.prog 7 #[vptr p, (Ev.val ⟨k, n, lim, sz, rf, ac, me, co, re, ke⟩)] w (Done2 a t.out w g p (t.count a.kind)) := by
  have H0 := Lib.hid (act0 hfr st #[.int .i64 k, .int .i64 n, .int .i64 lim, .int .i64 sz, .int .i64 rf, .int .i64 ac, .int .i64 me, .int .i64 co, .int .i64 re, .int .i64 ke])
  have HR := Lib.hid fun W => right_any ⟨k, n, lim, sz, rf, ac, me, co, re, ke⟩ W
  rw [hr] at HR
  have HA : Hid (∀ W, St W g.drop { s with out := [] } → Calls Tryz.prog 15 #[vptr p, (Ev.val ⟨k, n, lim, sz, rf, ac, me, co, re, ke⟩)] W fun e w5 => e = .returned a.val ∧ ∃ g5, To W g.drop { s with out := [] } w5 g5 t ∧ g5.ad .core = p) := Lib.hid fun W h1 => by
    refine (act_any h1 hp hr hs).mono ?_
    rintro e w5 ⟨he, g5, h5⟩
    exact ⟨he, g5, h5, (h5.head (t := .core) trivial).trans hp⟩
  have HPO : Hid (g.own p = .core) := Lib.hid (by
    obtain ⟨ov, m⟩ := st.mem
    rw [← hp]; exact m.core.lv.own)
  have hkind := act_kind hs
  obtain ⟨ak, hak⟩ : ∃ ak : Nat, a.kind = ak := ⟨a.kind.toNat, by omega⟩
  have hak5 : ak < 5 := by omega
  rw [hak] at hlt ⊢
  have hto : ((ak : Int)).toNat = ak := rfl
  rw [hto] at hlt
  have HK := Lib.hid hak
  have HLT := Lib.hid hlt
  have HK5 := Lib.hid hak5
  have HST := Lib.hid st
  have HP := Lib.hid hp
  unfold Ev.val at HR HA ⊢
  simp only at HR HA ⊢
  obtain ⟨x0, x1, x2, x3⟩ := a
  simp only at HK
  unfold Ans.val at HA
  unfold Done2 Ans.val
  simp only at HA ⊢
  clear hfr st hr hp hs hlt hak hkind hak5 hto
  go_enter Tryz.func7, Tryz.ntmps7
  go_upto_region 1 with (fail)
  generalize (w.alloc (.cells #[.int .i64 k, .int .i64 n, .int .i64 lim, .int .i64 sz, .int .i64 rf, .int .i64 ac, .int .i64 me, .int .i64 co, .int .i64 re, .int .i64 ke] 28)).alloc (.cells #[.int .i64 0, .int .i64 0, .int .i64 0, .int .i64 0] 34) = w2 at H0 ⊢
  obtain ⟨B1, hB1⟩ : ∃ B, B = w.heap.size := ⟨_, rfl⟩
  obtain ⟨B2, hB2⟩ : ∃ B, B = w.heap.size + 1 := ⟨_, rfl⟩
  rw [← hB2, ← hB1] at H0 ⊢
  clear hB1 hB2
  have e0 : w2.cell? ⟨B1, 0, none⟩ = some (.int .i64 k) := H0.out.b1.cell 0
  have e1 : w2.cell? ⟨B1, 1, none⟩ = some (.int .i64 n) := H0.out.b1.cell 1
  have e2 : w2.cell? ⟨B1, 2, none⟩ = some (.int .i64 lim) := H0.out.b1.cell 2
  have e3 : w2.cell? ⟨B1, 3, none⟩ = some (.int .i64 sz) := H0.out.b1.cell 3
  have e4 : w2.cell? ⟨B1, 4, none⟩ = some (.int .i64 rf) := H0.out.b1.cell 4
  have e5 : w2.cell? ⟨B1, 5, none⟩ = some (.int .i64 ac) := H0.out.b1.cell 5
  have e6 : w2.cell? ⟨B1, 6, none⟩ = some (.int .i64 me) := H0.out.b1.cell 6
  have e7 : w2.cell? ⟨B1, 7, none⟩ = some (.int .i64 co) := H0.out.b1.cell 7
  have e8 : w2.cell? ⟨B1, 8, none⟩ = some (.int .i64 re) := H0.out.b1.cell 8
  have e9 : w2.cell? ⟨B1, 9, none⟩ = some (.int .i64 ke) := H0.out.b1.cell 9
  go_upto_region 3 with (go_at_call 14; refine (HR.out _).mono ?_; rintro e w3 ⟨rfl, hb3⟩; have HB3 := Lib.hid hb3; have HT3 := Lib.hid (H0.out.to_.then hb3); clear hb3)
  clear e0 e1 e2 e3 e4 e5 e6 e7 e8 e9
  have hb1 : Blk w3 B1 28 #[.int .i64 k, .int .i64 n, .int .i64 lim, .int .i64 sz, .int .i64 rf, .int .i64 ac, .int .i64 me, .int .i64 co, .int .i64 re, .int .i64 ke] := H0.out.b1.below HB3.out H0.out.b1.lt
  have hb2 : Blk w3 B2 34 #[.int .i64 0, .int .i64 0, .int .i64 0, .int .i64 0] := H0.out.b2.below HB3.out H0.out.b2.lt
  have h10 := HT3.out.st.letGo HP.out
  have h10' := To.outNil HT3.out.st HP.out
  have hb3w := below_step H0.out.below HB3.out
  obtain ⟨ov0, c10⟩ : ∃ v, w3.cell? ⟨p, 10, none⟩ = some v := by
    obtain ⟨ov, m⟩ := HT3.out.st.mem
    rw [← HP.out]
    exact ⟨_, m.core.blk.cell 10⟩
  have z10 := HT3.out.st.frozen HP.out 10
  have hb1' := h10'.blk hb1 H0.out.o1
  have hb2' := h10'.blk hb2 H0.out.o2
  have HT4 := Lib.hid h10
  have HBB := Lib.hid (And.intro hb1' hb2')
  have HBW := Lib.hid hb3w
  clear hb1 hb2 h10 h10' hb1' hb2' hb3w
  go_upto_region 4 with (fail)
  clear c10 z10
  obtain ⟨w4, hw4⟩ : ∃ x, x = w3.setCell ⟨p, 10, none⟩ (.slice none 0 0) := ⟨_, rfl⟩
  rw [← hw4] at HT4 HBB ⊢
  have HW4 := Lib.hid hw4
  clear hw4
  have e0 : w4.cell? ⟨B1, 0, none⟩ = some (.int .i64 k) := HBB.out.1.cell 0
  have e1 : w4.cell? ⟨B1, 1, none⟩ = some (.int .i64 n) := HBB.out.1.cell 1
  have e2 : w4.cell? ⟨B1, 2, none⟩ = some (.int .i64 lim) := HBB.out.1.cell 2
  have e3 : w4.cell? ⟨B1, 3, none⟩ = some (.int .i64 sz) := HBB.out.1.cell 3
  have e4 : w4.cell? ⟨B1, 4, none⟩ = some (.int .i64 rf) := HBB.out.1.cell 4
  have e5 : w4.cell? ⟨B1, 5, none⟩ = some (.int .i64 ac) := HBB.out.1.cell 5
  have e6 : w4.cell? ⟨B1, 6, none⟩ = some (.int .i64 me) := HBB.out.1.cell 6
  have e7 : w4.cell? ⟨B1, 7, none⟩ = some (.int .i64 co) := HBB.out.1.cell 7
  have e8 : w4.cell? ⟨B1, 8, none⟩ = some (.int .i64 re) := HBB.out.1.cell 8
  have e9 : w4.cell? ⟨B1, 9, none⟩ = some (.int .i64 ke) := HBB.out.1.cell 9
  have HA4 := Lib.hid (HA.out w4 HT4.out)
  go_upto_region 5 with (go_at_call 15; refine HA4.out.mono ?_; rintro e w5 ⟨rfl, g5, h5, hp5⟩; have HT5 := Lib.hid h5; have HP5 := Lib.hid hp5; clear h5 hp5)
  obtain rfl : x0 = (ak : Int) := HK.out
  have hd2 : g.drop.own B2 = .none := G.drop_own H0.out.o2 (by simp)
  have hB2 : Blk w5 B2 34 #[.int .i64 0, .int .i64 0, .int .i64 0, .int .i64 0] := HT5.out.blk HBB.out.2 hd2
  have hO2 : g5.own B2 = .none := (HT5.out.own HBB.out.2.lt).trans hd2
  have hT6 := HT5.out.then ((Below.refl _ w5).alloc (Nat.le_refl _) (.cells #[.int .i64 ak, .int .i64 x1, .int .i64 x2, .int .i64 x3] 34))
  have hB6 := hB2.alloc (.cells #[.int .i64 ak, .int .i64 x1, .int .i64 x2, .int .i64 x3] 34)
  have hB3 := Blk.new w5 34 #[.int .i64 ak, .int .i64 x1, .int .i64 x2, .int .i64 x3]
  have hlt3 : B2 < w5.heap.size := hB2.lt
  clear hB2
  generalize w5.alloc _ = w6 at hT6 hB6 hB3 ⊢
  obtain ⟨B3, hBq⟩ : ∃ B, B = w5.heap.size := ⟨_, rfl⟩
  rw [← hBq] at hB3 hlt3 ⊢
  have hn23 : B2 ≠ B3 := by omega
  have HN23 := Lib.hid hn23
  clear hBq hlt3 hn23
  have c11 := hT6.st.ansCell HP5.out HK5.out
  have z11 := hT6.st.frozen HP5.out (11 + ak)
  have e3 : w6.cell? ⟨B3, 0, none⟩ = some (.int .i64 ak) := hB3.cell 0
  have hgl := hT6.st.good.ans
  have HADD : Hid (Calls Tryz.prog 16 #[.pointer (some ⟨p, 11 + ak, none⟩), .int .i64 1] w6.drew fun e w7 => (∃ v, e = .returned v) ∧ To w4 g.drop { s with out := [] } w7 g5 (t.count (ak : Int)) ∧ Blk w7 B2 34 #[.int .i64 0, .int .i64 0, .int .i64 0, .int .i64 0] ∧ Blk w7 B3 34 #[.int .i64 ak, .int .i64 x1, .int .i64 x2, .int .i64 x3] ∧ ∃ ov, w7.cell? ⟨p, 10, none⟩ = some ov ∧ OutAt w7 g5 ov t.out) := Lib.hid (by
    have hk5 := HK5.out
    have hge : 0 ≤ t.ans.getD ak 0 := by
      obtain ⟨ov, m⟩ := hT6.st.mem
      have := m.ans
      refine (hgl _ ?_).1
      rw [List.getD_eq_getElem?_getD, List.getElem?_eq_getElem (by omega)]
      exact List.getElem_mem _
    refine (tadd_any p (11 + ak) (t.ans.getD ak 0) w6.drew c11 z11 ⟨hge, HLT.out⟩).mono ?_
    rintro e w7 ⟨rfl, rfl⟩
    have h7 := To.count hT6.st.drew HP5.out hk5 HLT.out
    have hpB : ∀ B cs, Blk w6 B 34 cs → Blk (w6.drew.setCell ⟨p, 11 + ak, none⟩ (.int .i64 (t.ans.getD ak 0 + 1))) B 34 cs := fun B cs hB => by
      refine ((only_setCell (only_refl w6.drew (some p)) (.inl rfl) _).block B hB.lt (fun e => ?_)).trans hB
      injection e with e
      obtain ⟨ov, m⟩ := hT6.st.mem
      have hc := m.core.blk
      rw [HP5.out] at hc
      unfold Blk at hc hB
      rw [e, hc] at hB
      injection hB with hB
      injection hB with h1 h2
      exact absurd h2 (by decide)
    have h8 := hT6.drew.trans h7
    obtain ⟨ov, m⟩ := h8.st.mem
    have hc := m.core.blk.cell 10
    rw [HP5.out] at hc
    exact ⟨⟨_, rfl⟩, h8, hpB _ _ hB6, hpB _ _ hB3, ov, hc, m.out⟩)
  have hk5 := HK5.out
  have HO2 := Lib.hid hO2
  have HT6 := Lib.hid hT6
  clear hT6 hB6 hB3 hgl hO2 HLT HBB HT4 HT5 HT3 HA4 HA HR HB3 HK
  have hcs : ak = 0 ∨ ak = 1 ∨ ak = 2 ∨ ak = 3 ∨ ak = 4 := by omega
  clear hk5
  rcases hcs with rfl | rfl | rfl | rfl | rfl
  all_goals
    simp only [Nat.reduceAdd, Int.cast_ofNat_Int] at HADD c11 z11 e3 ⊢
    go_wp2
    go_still_tail 6, (by kernel_rfl)
    change wpList _ _ _ _ _ w6.drew
    go_wp2_with (go_at_call 16; refine HADD.out.mono ?_; rintro e w7 ⟨⟨v, rfl⟩, h7, hb2, hb3, ov, c10, hov⟩; have H7 := Lib.hid h7; have HB2 := Lib.hid hb2; have HOV := Lib.hid hov; have d0 := hb2.cell 0; have d1 := hb2.cell 1; have d2 := hb2.cell 2; have d3 := hb2.cell 3; simp at d0 d1 d2 d3; have z0 := hb2.frozen 0; have z1 := hb2.frozen 1; have z2 := hb2.frozen 2; have z3 := hb2.frozen 3; have f0 := hb3.cell 0; have f1 := hb3.cell 1; have f2 := hb3.cell 2; have f3 := hb3.cell 3; simp at f0 f1 f2 f3; clear h7 hb2 hb3 hov)
    go_region
    have h7 := H7.out
    rw [HW4.out] at h7
    have hend := did_end HBW.out HPO.out H0.out.h2 HB2.out HO2.out h7 HP5.out HOV.out f0 (.int .i64 x1) (.int .i64 x2) (.int .i64 x3)
    obtain ⟨⟨r0, r1, r2, r3⟩, hd⟩ := hend
    unfold put4 at r0 r1 r2 r3 hd
    go_wp2
    exact bodyPost_ret (by simp [results, Tryz.results7, go_sem, r0, r1, r2, r3]) rfl ⟨ov, g5, rfl, hd⟩
theorem DidDo.fresh {w W : World} {g g' : G} {p : Nat} {t : Core} {ov : Value} {out : List Cmd} (h : DidDo w (g.fresh w.heap.size) p W g' t ov out) : DidDo w g p W g' t ov out := by
  have e : ∀ q, q < w.heap.size → (g.fresh w.heap.size).own q = g.own q := fun q hq => by unfold G.fresh; simp only; rw [if_neg (by omega)]
  exact ⟨h.st, h.ad, h.os, h.tape, h.output, h.size, fun q hq => by have := h.own q hq; rw [e q hq] at this; exact this, fun q hq hn => h.block q hq (by rw [e q hq]; exact hn), h.row, h.tag⟩
/-- Do computes do_. -/
theorem do_any {w : World} {g : G} {s s' : Core} {p : Nat} {e : Ev} {a : Ans} {out : List Cmd} (st : St w g s) (hp : g.ad .core = p) (hs : s.do_ e = some (a, out, s')) : Calls Tryz.prog 7 #[vptr p, e.val] w (Done2 a out w g p s') := by
  have hfr : ∀ k, w.heap.size ≤ k → (g.fresh w.heap.size).own k = .none := fun _ hk => fresh_own hk
  have st' := (To.fresh st).st
  have hp' : (g.fresh w.heap.size).ad .core = p := hp
  refine Calls.mono (R := Done2 a out w (g.fresh w.heap.size) p s') ?_ ?_
  · obtain ⟨k, n, lim, sz, rf, ac, me, co, re, ke⟩ := e
    unfold Core.do_ at hs
    split at hs
    · next hr => cases hs; exact do_no hfr st' hp' hr
    · next hr =>
      split at hs
      · cases hs
      · next b t ht =>
        split at hs
        · next hlt => cases hs; exact do_yes hfr st' hp' (by simpa using hr) ht hlt
        · cases hs
  · rintro e' w' ⟨ov, g', he, hd⟩
    exact ⟨ov, g', he, hd.fresh⟩
end Go.Proofs.YtjmdgicdpggljaaGreat.GH

/- Proved: what core's Boxes answers: the sandboxes that are there, by value, by their numbers. -/
namespace Go.Proofs.YtjmdgicdpggljaaGreat.GH
open Go.RowKit Go.Maps Go.Sort Go.Shelf Go.Proofs.YtjmdgicdpggljaaGreat.Histo Go.Proofs.YtjmdgicdpggljaaGreat.Event Go.Proofs.YtjmdgicdpggljaaGreat.Ring
set_option linter.unusedVariables false
open Go.Proofs.YtjmdgicdpggljaaGreat.MapI (AL At Rng W64)
attribute [local go_sem] Oper.semAt_some

theorem info_box : (Tryz.prog.info? 72).map (fun i => (i.zero, i.size, i.bytes)) = some (some (.agg #[.int .i64 0, .int .i64 0, .int .i64 0, .int .i64 0, .int .i64 0, .bool false, .bool false, .int .i64 0]), 8, 56) := by kernel_rfl
theorem row_base {w : World} {b0 b1 : Nat} {e : TypeId} {size : Nat} {v : Value} {n : Nat} {xs : List Value} (h : w.ownsRow b1 e size v n xs) (hb : b0 ≤ b1) : w.ownsRow b0 e size v n xs :=
  ⟨h.1, h.2.imp id (fun ⟨q, cap, cur, a, b, c⟩ => ⟨q, cap, cur, a, Nat.le_trans hb b, c⟩)⟩
/-- The core's ids, asked in a world. -/
theorem ids_use {w : World} {g : G} {s : Core} {p : Nat} (st : St w g s) (hp : g.ad .core = p) : Calls Tryz.prog 17 #[vptr p] w (NumsOut (FM.keys s.boxes) w) := by
  subst hp
  obtain ⟨ov, m⟩ := st.mem
  have gd := st.good
  have hlen : s.boxes.length ≤ 1099511627776 := by
    have h1 := FM.length_le (n := s.next.toNat) m.boxes.sorted (fun p hp => by obtain ⟨_, h2, h3, _⟩ := gd.boxes p.1 p.2 (FM.get_of_mem m.boxes.sorted hp); omega)
    have := gd.next
    omega
  have := ids_any w (g.ad .core) (g.ad .boxes) _ _ (m.core.blk.cell 7) m.core.lv.lt m.boxes.map (by rw [FM.length_vals]; exact hlen)
  rw [show (FM.vals (fun id (_ : Box) => ptr (g.ad (.box id))) s.boxes).map (·.1) = FM.keys s.boxes from by unfold FM.vals FM.keys; rw [List.map_map]; rfl] at this
  exact this
def boxRow (l : List (Int × Box)) : List Value := l.flatMap fun x => x.2.cells.toList
theorem boxRow_next {l : List (Int × Box)} {k : Nat} (h : k < l.length) : boxRow (l.take (k + 1)) = boxRow (l.take k) ++ (l[k]).2.cells.toList := by
  unfold boxRow
  rw [List.take_add_one, List.flatMap_append, List.getElem?_eq_getElem h]
  simp
structure BL (w0 : World) (l : List (Int × Box)) (k : Nat) (v : Value) (wr : World) : Prop where
  own : wr.ownsRow w0.heap.size 72 8 v k (boxRow (l.take k))
  below : Below w0.heap.size w0 wr
/-- What Boxes leaves: a row of its own. -/
def BoxesOut (s : Core) (w : World) (e : Ending) (w' : World) : Prop := ∃ v, e = .returned v ∧ w'.ownsRow w.heap.size 72 8 v s.boxes.length (boxRow s.boxes) ∧ Below w.heap.size w w'
set_option maxRecDepth 100000 in
set_option maxHeartbeats 8000000 in
theorem boxes_any {w : World} {g : G} {s : Core} {p : Nat} (st : St w g s) (hp : g.ad .core = p) : Calls Tryz.prog 10 #[vptr p] w (BoxesOut s w) := by
  obtain ⟨bm, hbm⟩ : ∃ t, g.ad .boxes = t := ⟨_, rfl⟩
  have HID := Lib.hid (ids_use st hp)
  obtain ⟨n, hn⟩ : ∃ n, n = s.boxes.length := ⟨_, rfl⟩
  have hnb : n ≤ 2199023255552 := by have := st.good.outs; have := st.good.next; omega
  have HST := Lib.hid st
  have HM := Lib.hid (And.intro hp hbm)
  have HN := Lib.hid hn
  have hkl : (FM.keys s.boxes).length = n := by unfold FM.keys; rw [List.length_map]; exact hn.symm
  obtain ⟨i0, hi0, hz0, hz1, hz2⟩ := info_parts info_box
  have HI0 := Lib.hid (And.intro hi0 (And.intro hz0 (And.intro hz1 hz2)))
  have HKL := Lib.hid hkl
  have HNB := Lib.hid hnb
  clear st hp hbm hn hkl hi0 hz0 hz1 hz2 hnb
  go_enter Tryz.func10, Tryz.ntmps10
  go_wp2_with (go_at_call 17; refine HID.out.mono ?_; rintro e w2 ⟨v, rfl, hv, hb⟩; obtain ⟨va, cap, hv2⟩ := hv.slice; rw [HKL.out] at hv2; subst hv2; have HV := Lib.hid hv; have HB2 := Lib.hid hb; clear hv hb)
  have hst0 : BL w2 s.boxes 0 (.slice none 0 0) w2 := ⟨World.ownsRow_nil _ _ _ _, Below.refl _ _⟩
  have HS0 := Lib.hid hst0
  clear hst0
  have hnb := HNB.out
  go_loopw [3, 9] (fun v iv wr => ∃ k : Nat, k ≤ n ∧ iv = .int .i64 (k : Int) ∧ BL w2 s.boxes k v wr) (fun _ iv _ => n - (intOf iv).toNat)
  case atStart => exact ⟨0, by omega, by simp, HS0.out⟩
  case round =>
    obtain ⟨k, hk, rfl, hM⟩ := hrel
    by_cases hlt : k < n
    · have hlt' : k < s.boxes.length := by rw [← HN.out]; exact hlt
      have hst := HST.out.below (below_step HB2.out hM.below)
      have hsb := hst.sorted.2.2.2.1
      obtain ⟨x, hx⟩ : ∃ x, x = s.boxes[k] := ⟨_, rfl⟩
      have hgx : FM.get s.boxes x.1 = some x.2 := FM.get_of_mem hsb (by rw [hx]; exact List.getElem_mem _)
      have hkey : (FM.keys s.boxes).getD k 0 = x.1 := by
        unfold FM.keys
        rw [List.getD_eq_getElem?_getD, List.getElem?_map, List.getElem?_eq_getElem hlt', hx]; rfl
      have hqk : ∃ q, va = some ⟨q, 0, none⟩ ∧ wr.cell? ⟨q, k, none⟩ = some (.int .i64 x.1) ∧ n ≤ cap := by
        rcases HV.out with ⟨h1, h2⟩ | ⟨q, cap', cs, h1, h0, h3, _, h4, h5⟩
        · have := HKL.out; rw [h2] at this; rw [← this] at hlt; exact absurd hlt (Nat.not_lt_zero _)
        · cases h1
          refine ⟨q, rfl, ?_, by rw [← HKL.out]; exact h3⟩
          rw [← hkey]
          exact ((h4.below hM.below h4.lt).cell k).trans (h5 k (by rw [HKL.out]; exact hlt))
      obtain ⟨q, rfl, ck, hcap⟩ := hqk
      obtain ⟨bq, hbq⟩ : ∃ t, g.ad (.box x.1) = t := ⟨_, rfl⟩
      have c7 := hst.boxes HM.out.1 HM.out.2
      have hl := hst.look (w64_box hst.good hgx).1 HM.out.2
      rw [hgx] at hl
      simp only [Option.map_some, Option.getD_some, hbq] at hl
      have hbk := hst.box hgx hbq
      have hsn := boxRow_next hlt'
      rw [← hx] at hsn
      obtain ⟨id, b⟩ := x
      obtain ⟨b0, b1, b2, b3, b4, b5, b6, b7⟩ := b
      have f0 : wr.cell? ⟨bq, 0, none⟩ = some (.int .i64 b0) := hbk.cell 0
      have f1 : wr.cell? ⟨bq, 1, none⟩ = some (.int .i64 b1) := hbk.cell 1
      have f2 : wr.cell? ⟨bq, 2, none⟩ = some (.int .i64 b2) := hbk.cell 2
      have f3 : wr.cell? ⟨bq, 3, none⟩ = some (.int .i64 b3) := hbk.cell 3
      have f4 : wr.cell? ⟨bq, 4, none⟩ = some (.int .i64 b4) := hbk.cell 4
      have f5 : wr.cell? ⟨bq, 5, none⟩ = some (.bool b5) := hbk.cell 5
      have f6 : wr.cell? ⟨bq, 6, none⟩ = some (.bool b6) := hbk.cell 6
      have f7 : wr.cell? ⟨bq, 7, none⟩ = some (.int .i64 b7) := hbk.cell 7
      have hz : (k : Int) < (n : Int) := by omega
      have HS := Lib.hid hsn
      obtain ⟨acc, hacc⟩ : ∃ a, a = boxRow (s.boxes.take k) := ⟨_, rfl⟩
      have hown := hM.own
      have hbel := hM.below
      rw [← hacc] at hown
      have hsz := hbel.size
      have HA := Lib.hid hacc
      have HO := Lib.hid hown
      have HBW := Lib.hid hbel
      have HSZ := Lib.hid hsz
      clear hM hst hsb hgx hkey hbk hsn hbq hacc hown hbel hsz hx hlt'
      simp only at f0 f1 f2 f3 f4 f5 f6 f7 ck hl
      go_wp2_with (at_builtin; refine wpList_append_own _ rfl _ _ 40 rfl w2.heap.size 72 i0 (.agg #[.int .i64 0, .int .i64 0, .int .i64 0, .int .i64 0, .int .i64 0, .bool false, .bool false, .int .i64 0]) 8 56 Tryz.underlying40 HI0.out.1 HI0.out.2.1 HI0.out.2.2.1 HI0.out.2.2.2 rfl (by decide) _ k acc rfl (HO.out.alloc _) ⟨wr.heap.size, 0, none⟩ 1 1 [.int .i64 b0, .int .i64 b1, .int .i64 b2, .int .i64 b3, .int .i64 b4, .bool b5, .bool b6, .int .i64 b7] rfl rfl ?c1 ?c2 ?c3 ?c4 ?c5 ?_)
      case c2 => simp [Value.oneCell']
      case c3 => unfold maxLen; omega
      case c4 => omega
      case c5 => have := HSZ.out; simp; omega
      intro v' w3 hown2 hgrow2 _
      have hN : BL w2 s.boxes (k + 1) v' w3 := by
        refine ⟨by rw [HS.out, ← HA.out]; exact hown2, ?_⟩
        refine ((HBW.out.alloc HSZ.out _).grown hgrow2 (by simp; have := HSZ.out; omega) ?_)
        intro q hq
        exact (HO.out.lt q hq).1
      have HNX := Lib.hid hN
      clear hN hown2 hgrow2
      go_wp2
      go_roundw
      case rel => exact ⟨k + 1, by omega, by go_num, HNX.out⟩
      case measure => simp [intOf]; omega
    · obtain rfl : k = n := by omega
      have hz : ¬ ((k : Int) < (k : Int)) := by omega
      have HM' := Lib.hid hM
      clear hM
      go_wp2
      go_ret
      have hM := HM'.out
      have e := hM.own
      rw [HN.out, List.take_of_length_le (Nat.le_refl _)] at e
      exact ⟨_, rfl, row_base e HB2.out.size, below_step HB2.out hM.below⟩
end Go.Proofs.YtjmdgicdpggljaaGreat.GH
