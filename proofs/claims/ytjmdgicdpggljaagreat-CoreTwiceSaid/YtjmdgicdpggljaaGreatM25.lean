/- Proved: what core's kill leaves. -/
import Derived.Test.YtjmdgicdpggljaaGreatM24
import Derived.Test.YtjmdgicdpggljaaGreatM23
import Derived.Test.YtjmdgicdpggljaaGreatM18
import Derived.Deep.RegionHeld3
import Derived.Deep.RegionLaw
import Derived.Deep.AppendLies
set_option linter.all false
namespace Go.Proofs.YtjmdgicdpggljaaGreat.GH
open Go.RowKit Go.Proofs.YtjmdgicdpggljaaGreat.Histo Go.Proofs.YtjmdgicdpggljaaGreat.Event Go.Proofs.YtjmdgicdpggljaaGreat.Ring
set_option linter.unusedVariables false
open Go.Proofs.YtjmdgicdpggljaaGreat.MapG (Codec Mk)
open Go.Proofs.YtjmdgicdpggljaaGreat.MapI (AL At Rng W64)

theorem info_cmd : (Tryz.prog.info? 44).map (fun i => (i.zero, i.size, i.bytes)) = some (some (.agg #[.bool false, .int .i64 0, .int .i64 0, .int .i64 0]), 4, 32) := by kernel_rfl
theorem cmd_one (c : Cmd) : ∀ u ∈ c.cells, u.oneCell' = true := by
  intro u hu
  simp only [Cmd.cells, List.mem_cons, List.not_mem_nil, or_false] at hu
  rcases hu with rfl | rfl | rfl | rfl <;> rfl
theorem cmds_flat (l : List Cmd) (c : Cmd) : (l ++ [c]).flatMap Cmd.cells = l.flatMap Cmd.cells ++ c.cells := by simp
/-- The core's state, with one command more. -/
def Core.told1 (s : Core) (c : Cmd) : Core := { s with out := s.out ++ [c] }
theorem kept_out {t : Tag} {s : Core} (c : Cmd) (h : Kept s t) : Kept (s.told1 c) t := h
/-- 'c.out = append(c.out, reply.Command{..})': the row where it was, or in a new block; then the core's cell. -/
theorem To.out {w w1 w5 : World} {g : G} {s : Core} {ov : Value} {p r' cap' : Nat} {c : Cmd} (st : St w g s) (m : Mem w g s ov) (hp : g.ad .core = p) (hb1 : Below w.heap.size w w1)
    (hown : w5.ownsRow 0 44 4 (.slice (some ⟨r', 0, none⟩) (s.out.length + 1 : Nat) cap') (s.out.length + 1) (s.out.flatMap Cmd.cells ++ c.cells))
    (hg : w1.grownBy w5 ov.ownBlock) (hat : some r' = ov.ownBlock ∨ r' = w1.heap.size) (hgood : ((s.out.length + 1 + s.boxes.length : Nat) : Int) ≤ 2 * s.next) :
    ∃ g', To w g s (w5.setCell ⟨p, 10, none⟩ (.slice (some ⟨r', 0, none⟩) (s.out.length + 1 : Nat) cap')) g' (s.told1 c) ∧ (∀ t, t ≠ .out → g'.ad t = g.ad t) ∧ ∀ q t, g.own q = t → t ≠ .out → t ≠ .core → q < w.heap.size → (w5.setCell ⟨p, 10, none⟩ (.slice (some ⟨r', 0, none⟩) (s.out.length + 1 : Nat) cap')).heap[q]? = w.heap[q]? := by
  subst hp
  obtain ⟨v, hv⟩ : ∃ v : Value, v = .slice (some ⟨r', 0, none⟩) (s.out.length + 1 : Nat) cap' := ⟨_, rfl⟩
  rw [← hv] at hown ⊢
  have hvo : v.ownBlock = some r' := by rw [hv]; rfl
  have hcl := m.core.lv.lt
  -- the block of the row
  have htag := m.out.tag
  have hne : ov.ownBlock ≠ some (g.ad .core) := fun e => by
    obtain ⟨l, e2⟩ := htag _ e
    exact absurd (l.ne m.core.lv (by simp)) (by rw [← e2]; simp)
  have st1 : Step (fun t => t = .out) w g w5 g := (Step.of_below hb1 g _).trans (Step.of_grown hg (fun k e => by obtain ⟨l, e2⟩ := htag k e; rw [e2]; exact l.own))
  have st2 : Step (fun t => t = .out ∨ t = .core) w g (w5.setCell ⟨g.ad .core, 10, none⟩ v) g := (st1.mono fun t ht => .inl ht).trans (Step.of_grown (only_setCell (only_refl _ (some (g.ad .core))) (.inl rfl) v) (fun k e => by cases e; exact .inr m.core.lv.own))
  have hbk5 : Blk w5 (g.ad .core) 65 (s.cells g ov) := (st1.block _ hcl (by rw [m.core.lv.own]; simp)).trans m.core.blk
  have hr5 : r' < w5.heap.size := by
    obtain ⟨cur, hcur⟩ : ∃ cur, Blk w5 r' 44 cur := by rw [hv] at hown; exact ownsRow_blk hown
    exact hcur.lt
  have hrc : r' ≠ g.ad .core := by
    rcases hat with e | e
    · exact fun e2 => hne (by rw [← e, e2])
    · have := hb1.size; omega
  -- names
  have key : ∃ g', Step (fun t => t = .out ∨ t = .core) w g (w5.setCell ⟨g.ad .core, 10, none⟩ v) g' ∧ (∀ t, t ≠ .out → g'.ad t = g.ad t) ∧ Lv (w5.setCell ⟨g.ad .core, 10, none⟩ v) g' .core ∧ RowTag (w5.setCell ⟨g.ad .core, 10, none⟩ v) g' .out v := by
    have hsz : (w5.setCell ⟨g.ad .core, 10, none⟩ v).heap.size = w5.heap.size := by simp [World.setCell]
    rcases hat with e | e
    · refine ⟨g, st2, fun _ _ => rfl, ⟨m.core.lv.own, Nat.lt_of_lt_of_le hcl st2.size⟩, fun q hq => ?_⟩
      rw [hvo] at hq
      cases hq
      obtain ⟨l, e2⟩ := htag r' e.symm
      exact ⟨⟨l.own, Nat.lt_of_lt_of_le l.lt st2.size⟩, e2⟩
    · have hr : w.heap.size ≤ r' := by have := hb1.size; omega
      refine ⟨g.set_ .out r', st2.name .out r' hr (.inl rfl), fun t ht => G.set_ad_ne _ _ _ _ ht, m.core.lv.set_ st2.size hr (by simp), fun q hq => ?_⟩
      rw [hvo] at hq
      cases hq
      exact ⟨Lv.named _ _ (by rw [hsz]; exact hr5), by rw [G.set_ad]⟩
  obtain ⟨g', s3, had, lc, rt⟩ := key
  refine ⟨g', ?_, had, fun q t hq h1 h2 hlt => st2.block q hlt (by rw [hq]; rintro (e | e); exact h1 e; exact h2 e)⟩
  have hd : ∀ t, Head t → g'.ad t = g.ad t := fun t ht => had t (fun e => by rw [e] at ht; exact ht)
  have hcells : (s.told1 c).cells g' v = (s.cells g ov).setIfInBounds 10 v := by
    rw [cells_heads hd]
    rfl
  have hcore : Nm (w5.setCell ⟨g.ad .core, 10, none⟩ v) g' .core 65 ((s.told1 c).cells g' v) := by
    refine ⟨lc, ?_⟩
    rw [hcells, had _ (by simp)]
    exact hbk5.set_ 10 v
  have hout : OutAt (w5.setCell ⟨g.ad .core, 10, none⟩ v) g' v (s.told1 c).out := by
    refine ⟨?_, rt⟩
    show World.ownsRow _ 0 _ 4 v (s.out ++ [c]).length ((s.out ++ [c]).flatMap Cmd.cells)
    rw [cmds_flat, List.length_append, List.length_singleton]
    exact hown.kept (only_at (only_refl w5 (some (g.ad .core))) 10 v) (.inr (by rw [hvo]; simpa using hrc))
  refine To.of (m.turn s3 (s.told1 c) v hd (core := .inr hcore) (out := .inr hout) (quota := .inl ⟨by simp, rfl⟩) (toks := .inl ⟨by simp, rfl⟩) (fns := .inl ⟨by simp, rfl⟩) (hosts := .inl ⟨by simp, rfl⟩) (caches := .inl ⟨by simp, rfl⟩) (boxes := .inl ⟨by simp, rfl⟩) (til := .inl ⟨by simp, rfl⟩) (timers := .inl ⟨by simp, rfl⟩))
    ⟨st.good.now, st.good.next, st.good.toks, st.good.fns, st.good.caches, st.good.boxes, st.good.til, st.good.ans, by show (((s.out ++ [c]).length + s.boxes.length : Nat) : Int) ≤ 2 * s.next; rw [List.length_append]; exact hgood⟩ s3 (by simp) (fun t ht => had t (fun e => by rw [e] at ht; exact ht)) (fun t ht => ht)
theorem out_open {w : World} {g : G} {ov : Value} {l : List Cmd} (h : OutAt w g ov l) : ∃ a cap, ov = .slice a l.length cap ∧ l.length ≤ cap := by
  rcases h.row.2 with ⟨h1, h2⟩ | ⟨q, cap, cur, h1, _, _, hc, _⟩
  · exact ⟨none, 0, by rw [h1, h2], by omega⟩
  · exact ⟨_, cap, h1, hc⟩
set_option maxRecDepth 100000 in
set_option maxHeartbeats 8000000 in
theorem kill_any {w : World} {g : G} {s t : Core} {p q : Nat} {b : Box} (st : St w g s) (hp : g.ad .core = p) (hb : FM.get s.boxes b.id = some b) (hq : g.ad (.box b.id) = q) (hs : s.gone b = some t) (hlen : ((t.out.length + 1 + t.boxes.length : Nat) : Int) ≤ 2 * t.next) :
    Calls Tryz.prog 42 #[vptr p, vptr q] w (Post (.tuple #[]) w g s (t.told1 ⟨false, b.id, b.fn, b.host⟩)) := by
  have HG := Lib.hid (gone_any st hp hb hq hs)
  have HD : Hid (∀ i, i < 3 → (b.dead s.now).cells[i]? = b.cells[i]?) := Lib.hid fun i hi => by
    unfold Box.dead
    split
    · rfl
    · obtain rfl | rfl | rfl : i = 0 ∨ i = 1 ∨ i = 2 := by omega
      all_goals rfl
  have HLEN := Lib.hid hlen
  have hlt : t.out.length < 4398046511104 → True := fun _ => trivial
  obtain ⟨i0, hi0, hz0, hz1, hz2⟩ := info_parts info_cmd
  have HI0 := Lib.hid (And.intro hi0 (And.intro hz0 (And.intro hz1 hz2)))
  obtain ⟨cc, hcc⟩ : ∃ cc : Cmd, cc = ⟨false, b.id, b.fn, b.host⟩ := ⟨_, rfl⟩
  obtain ⟨x0, h0⟩ : ∃ x, x = b.id := ⟨_, rfl⟩
  obtain ⟨x1, h1⟩ : ∃ x, x = b.fn := ⟨_, rfl⟩
  obtain ⟨x2, h2⟩ : ∃ x, x = b.host := ⟨_, rfl⟩
  have hbc : Hid (b.cells[0]? = some (.int .i64 x0) ∧ b.cells[1]? = some (.int .i64 x1) ∧ b.cells[2]? = some (.int .i64 x2)) := Lib.hid (by rw [h0, h1, h2]; exact ⟨rfl, rfl, rfl⟩)
  rw [← hcc]
  have hcv : Hid (cc.cells = [.bool false, .int .i64 x0, .int .i64 x1, .int .i64 x2]) := Lib.hid (by rw [hcc, h0, h1, h2]; rfl)
  have HP : Hid (∀ w1 g1, To w g s w1 g1 t → g1.ad .core = p) := Lib.hid fun w1 g1 h => (h.head (t := .core) trivial).trans hp
  clear st hp hb hq hs hlen hlt hi0 hz0 hz1 hz2 hcc h0 h1 h2
  go_enter Tryz.func42, Tryz.ntmps42
  go_upto_region 1 with (go_at_call 58; refine HG.out.mono ?_; rintro e w1 ⟨rfl, g1, h1, hk⟩; have H1 := Lib.hid h1; have HK1 := Lib.hid hk; clear h1 hk)
  obtain ⟨ov, m⟩ := H1.out.st.mem
  obtain ⟨a, cap, hov, hcapN⟩ := out_open m.out
  subst hov
  have hp1 := HP.out w1 g1 H1.out
  obtain ⟨N, hN⟩ : ∃ N, N = t.out.length := ⟨_, rfl⟩
  have hown := m.out.row
  rw [← hN] at m hown hcapN
  have hgd := H1.out.st.good
  have hNb : N < 4398046511104 := by have := HLEN.out; have := hgd.next; omega
  have hbp : Blk w1 p 65 (t.cells g1 (.slice a N cap)) := by have := m.core.blk; rw [hp1] at this; exact this
  have c10 : w1.cell? ⟨p, 10, none⟩ = some (.slice a N cap) := hbp.cell 10
  have d0 : w1.cell? ⟨q, 0, none⟩ = some (.int .i64 x0) := (HK1.out.cell 0).trans ((HD.out 0 (by omega)).trans hbc.out.1)
  have d1 : w1.cell? ⟨q, 1, none⟩ = some (.int .i64 x1) := (HK1.out.cell 1).trans ((HD.out 1 (by omega)).trans hbc.out.2.1)
  have d2 : w1.cell? ⟨q, 2, none⟩ = some (.int .i64 x2) := (HK1.out.cell 2).trans ((HD.out 2 (by omega)).trans hbc.out.2.2)
  have hne : (Value.slice a N cap).ownBlock ≠ some p := fun e => by
    obtain ⟨l, e2⟩ := m.out.tag _ e
    rw [← hp1] at e2
    exact (l.ne m.core.lv (by simp)) e2.symm
  have hm1 : N + 1 ≤ maxLen := by unfold maxLen; omega
  have hm2 : (N + 1) * 32 ≤ 140737488355328 := by omega
  have HM := Lib.hid (And.intro hm1 hm2)
  have HOWN := Lib.hid hown
  have KA := Lib.hid (fun (o : Obj) (w5 : World) (hg : (w1.alloc o).grownBy w5 (Value.slice a N cap).ownBlock) => ((hbp.alloc o).grown hg (fun e => hne e.symm)).frozen 10)
  have KP := Lib.hid (fun (o : Obj) (w5 : World) (hg : (w1.alloc o).grownBy w5 (Value.slice a N cap).ownBlock) => (show w5.cell? ⟨p, 10, none⟩ = some (.slice a N cap) from ((hbp.alloc o).grown hg (fun e => hne e.symm)).cell 10))
  have d1' : (w1.alloc (.cells #[.bool false, .int .i64 x0, .int .i64 x1, .int .i64 x2] 44)).drew.cell? ⟨p, 10, none⟩ = some (.slice a N cap) := (hbp.alloc _).cell 10
  have d1'' : (w1.alloc (.cells #[.bool false, .int .i64 x0, .int .i64 x1, .int .i64 x2] 44)).cell? ⟨p, 10, none⟩ = some (.slice a N cap) := (hbp.alloc _).cell 10
  have HMEM := Lib.hid m
  have HN := Lib.hid hN
  have HCAP := Lib.hid hcapN
  have HP1 := Lib.hid hp1
  clear m hown hgd hbp hne hm1 hm2 hN hcapN hp1
  go_region_law
    (first
      | ((refine step_append_at _ (by rfl) _ _ _ (by rfl) 44 i0 (.agg #[.bool false, .int .i64 0, .int .i64 0, .int .i64 0]) 4 32 Tryz.underlying35 HI0.out.1 HI0.out.2.1 HI0.out.2.2.1 HI0.out.2.2.2 rfl (by decide) (.slice a N cap) N (t.out.flatMap Cmd.cells) (by rfl) (HOWN.out.alloc _) ⟨w1.heap.size, 0, none⟩ 1 1 [.bool false, .int .i64 x0, .int .i64 x1, .int .i64 x2] (by rfl) rfl (fun j u hj => World.news_of_block (heap_alloc_new w1 _) j u hj) (by rw [← hcv.out]; exact cmd_one cc) HM.out.1 HM.out.2 (by omega) ?_); intro r' cap' w5 hown5 hgrow5 hat5 hcap5; have fa5 := KA.out _ w5 ⟨hgrow5.os, hgrow5.tape, hgrow5.output, hgrow5.size, hgrow5.block⟩; have ca5 := KP.out _ w5 ⟨hgrow5.os, hgrow5.tape, hgrow5.output, hgrow5.size, hgrow5.block⟩))
  all_goals
    have hown6 := hown5
    rw [← hcv.out] at hown6
    rw [HN.out] at hown6
    obtain ⟨g', ht, _, _⟩ := To.out (w := w1) (c := cc) (ov := .slice a N cap) H1.out.st HMEM.out HP1.out ((Below.refl w1.heap.size w1).alloc (Nat.le_refl _) (.cells #[.bool false, .int .i64 x0, .int .i64 x1, .int .i64 x2] 44)) hown6 ⟨hgrow5.os, hgrow5.tape, hgrow5.output, hgrow5.size, hgrow5.block⟩ hat5 HLEN.out
    have HT := Lib.hid ht
    clear ht hown6 hown5 hgrow5 hat5 fa5 ca5
    rw [← HN.out] at HT
    go_wp2
    go_end0
    exact ⟨rfl, g', H1.out.trans HT.out⟩
end Go.Proofs.YtjmdgicdpggljaaGreat.GH
