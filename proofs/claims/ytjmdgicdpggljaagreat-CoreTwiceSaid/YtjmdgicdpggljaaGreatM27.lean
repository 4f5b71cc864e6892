/- Proved: what core's start leaves: a new sandbox that boots. -/
import Derived.Test.YtjmdgicdpggljaaGreatM26
set_option linter.all false
namespace Go.Proofs.YtjmdgicdpggljaaGreat.GH
open Go.RowKit Go.Proofs.YtjmdgicdpggljaaGreat.Histo Go.Proofs.YtjmdgicdpggljaaGreat.Event Go.Proofs.YtjmdgicdpggljaaGreat.Ring
set_option linter.unusedVariables false
open Go.Proofs.YtjmdgicdpggljaaGreat.MapG (Codec Mk)
open Go.Proofs.YtjmdgicdpggljaaGreat.MapI (AL At Rng W64)

/-- The core's state with one sandbox more. -/
def Core.born (s : Core) (b : Box) : Core := { s with next := s.next + 1, boxes := FM.put s.boxes s.next b }
theorem not_there {s : Core} (gd : Good s) : FM.get s.boxes s.next = none := by
  cases h : FM.get s.boxes s.next with
  | none => rfl
  | some b => have := (gd.boxes _ _ h).2.2.1; omega
theorem Good.born {s : Core} (gd : Good s) {b : Box} (hid : b.id = s.next) (hb : b.Good) (hn : s.next < 1099511627776) : Good (s.born b) := by
  have hge := gd.next
  refine ⟨gd.now, ⟨by show 1 ≤ s.next + 1; omega, by show s.next + 1 ≤ _; omega⟩, gd.toks, gd.fns, gd.caches, fun k x hk => ?_, fun k t hk => ?_, gd.ans, ?_⟩
  · have hk2 : FM.get (FM.put s.boxes s.next b) k = some x := hk
    rw [FM.get_put] at hk2
    show x.id = k ∧ 1 ≤ k ∧ k < s.next + 1 ∧ x.Good
    by_cases e : k = s.next
    · rw [if_pos e] at hk2; cases hk2
      exact ⟨by rw [hid, e], by omega, by omega, hb⟩
    · rw [if_neg e] at hk2
      obtain ⟨h1, h2, h3, h4⟩ := gd.boxes k x hk2
      exact ⟨h1, h2, by omega, h4⟩
  · obtain ⟨h1, h2, h3⟩ := gd.til k t hk
    exact ⟨h1, by show k < s.next + 1; omega, h3⟩
  · show ((s.out.length + (FM.put s.boxes s.next b).length : Nat) : Int) ≤ 2 * (s.next + 1)
    rw [FM.length_put_new (not_there gd)]
    have := gd.outs
    omega
theorem To.born {w w3 : World} {g : G} {s : Core} {ov : Value} {b : Box} {nb N : Nat} (st : St w g s) (m : Mem w g s ov) (s1 : Step (fun t => t = .core ∨ t = .boxes) w g w3 g) (hid : b.id = s.next) (hbg : b.Good) (hn : s.next < 1099511627776)
    (hc : Blk w3 (g.ad .core) 65 ((s.cells g ov).setIfInBounds 1 (.int .i64 (s.next + 1)))) (hnb : w.heap.size ≤ nb) (hbk : Blk w3 nb 72 b.cells)
    (hm : At Tryz.prog 3 w3 (g.ad .boxes) N (MapI.put (FM.vals (fun id (_ : Box) => ptr (g.ad (.box id))) s.boxes) s.next (ptr nb))) :
    To w g s w3 (g.set_ (.box s.next) nb) (s.born b) := by
  have st3 : Step (fun t => t = .core ∨ t = .boxes ∨ t = .box s.next) w g w3 (g.set_ (.box s.next) nb) := (s1.mono fun t ht => by rcases ht with h | h; exact .inl h; exact .inr (.inl h)).name _ nb hnb (.inr (.inr rfl))
  have hne : ∀ t, t ≠ .box s.next → (g.set_ (.box s.next) nb).ad t = g.ad t := fun t ht => G.set_ad_ne _ _ _ _ ht
  have hd : ∀ t, Head t → (g.set_ (.box s.next) nb).ad t = g.ad t := fun t ht => hne t (fun e => by rw [e] at ht; exact ht)
  have hcells : (s.born b).cells (g.set_ (.box s.next) nb) ov = (s.cells g ov).setIfInBounds 1 (.int .i64 (s.next + 1)) := by
    rw [cells_heads hd]
    rfl
  have hbox : BoxesAt w3 (g.set_ (.box s.next) nb) (s.born b).boxes := by
    refine ⟨m.boxes.lv.set_ s1.size hnb (by simp), ?_, fun k c hk => ?_⟩
    · rw [hne _ (by simp)]
      have hp := put_turn (f := fun id (_ : Box) => ptr (g.ad (.box id))) (f' := fun id (_ : Box) => ptr ((g.set_ (.box s.next) nb).ad (.box id))) (l := s.boxes) (k := s.next) (a := b) (fun x _ hx => by rw [hne _ (by simp [hx])])
      simp only [G.set_ad] at hp
      have h2 := Mp.of hm
      rw [hp] at h2
      exact h2
    · have hk2 : FM.get (FM.put s.boxes s.next b) k = some c := hk
      rw [FM.get_put] at hk2
      by_cases e : k = s.next
      · subst e; rw [if_pos rfl] at hk2; cases hk2
        exact ⟨Lv.named _ _ hbk.lt, by rw [G.set_ad]; exact hbk⟩
      · rw [if_neg e] at hk2
        exact (m.boxes.each k c hk2).step st3 (by simp [e])
  refine To.of (m.turn st3 (s.born b) ov hd (core := .inr ⟨m.core.lv.set_ s1.size hnb (by simp), by rw [hcells, hne _ (by simp)]; exact hc⟩) (out := .inl ⟨by simp, rfl, rfl⟩) (quota := .inl ⟨by simp, rfl⟩) (toks := .inl ⟨by simp, rfl⟩) (fns := .inl ⟨by simp, rfl⟩) (hosts := .inl ⟨by simp, rfl⟩) (caches := .inl ⟨by simp, rfl⟩) (boxes := .inr hbox) (til := .inl ⟨by simp, rfl⟩) (timers := .inl ⟨by simp, rfl⟩)) (st.good.born hid hbg hn) st3 (by simp) (fun t ht => hne t (fun e => by subst e; have : s.next < s.next := ht; omega)) (fun t ht => ?_)
  cases t <;> first | exact ht | (have h : _ < s.next := ht; show _ < s.next + 1; omega)
theorem boot_good {s : Core} (gd : Good s) {f h : Int} {x : Fn} (hx : FM.get s.fns f = some x) (hh : 0 ≤ h ∧ h < 32) : (Core.boot f h s.next x.mem s.now).Good := by
  obtain ⟨f0, f1, gx⟩ := gd.fns f x hx
  exact ⟨⟨f0, f1⟩, hh, gx.mem, by show (0 : Int) ≤ 0 ∧ (0 : Int) ≤ 3; decide, gd.now⟩
/-- The steps of start behind Take, up to the map's store. -/
theorem born_run {w2 : World} {g : G} {s : Core} {p bm : Nat} {f h : Int} {x : Fn} (st : St w2 g s) (hp : g.ad .core = p) (hbm : g.ad .boxes = bm) (hx : FM.get s.fns f = some x) (hh : 0 ≤ h ∧ h < 32) (hn : s.next < 1099511627776) (w3 : World) (hw3 : w3 = w2.drew.alloc (.cells (Core.boot f h s.next x.mem s.now).cells 72)) :
    w3.cell? ⟨p, 1, none⟩ = some (.int .i64 s.next) ∧ w3.frozen? ⟨p, 1, none⟩ = false ∧ ∀ w4, w4 = w3.setCell ⟨p, 1, none⟩ (.int .i64 (s.next + 1)) → w4.cell? ⟨p, 7, none⟩ = some (.map (some bm)) ∧ w4.cell? ⟨w2.heap.size, 0, none⟩ = some (.int .i64 s.next) ∧
      ∃ w5, (Instr.mapUpdate 52 (.map (some bm)) (.int .i64 s.next) (vptr w2.heap.size)).run Tryz.prog w4.drew = .ok () w5 ∧ To w2 g s w5 (g.set_ (.box s.next) w2.heap.size) (s.born (Core.boot f h s.next x.mem s.now)) := by
  subst hp hbm
  obtain ⟨ov, m⟩ := st.mem
  have hcl := m.core.lv.lt
  have hbl := m.boxes.lv.lt
  have hb3 : Below w2.heap.size w2 w3 := by rw [hw3]; exact ((Below.refl _ _).drew).alloc (Nat.le_refl _) _
  have hc3 : Blk w3 (g.ad .core) 65 (s.cells g ov) := m.core.blk.below hb3 hcl
  have hn3 : Blk w3 w2.heap.size 72 (Core.boot f h s.next x.mem s.now).cells := by rw [hw3]; exact Blk.new w2.drew _ _
  refine ⟨hc3.cell 1, hc3.frozen 1, fun w4 hw4 => ?_⟩
  have hcb : g.ad .core ≠ g.ad .boxes := m.core.lv.ne m.boxes.lv (by simp)
  have hc4 : Blk w4 (g.ad .core) 65 ((s.cells g ov).setIfInBounds 1 (.int .i64 (s.next + 1))) := by rw [hw4]; exact hc3.set_ 1 _
  have hn4 : Blk w4 w2.heap.size 72 (Core.boot f h s.next x.mem s.now).cells := by rw [hw4]; exact hn3.far (by show w2.heap.size ≠ g.ad .core; omega) _
  have hb4 : w4.heap[g.ad .boxes]? = w2.heap[g.ad .boxes]? := by rw [hw4]; exact (Below.heap_setCell _ _ _ _ (Ne.symm hcb)).trans (hb3.block _ hbl)
  have hlen : s.boxes.length ≤ 2199023255552 := by have := st.good.outs; omega
  obtain ⟨w5, r5, a5, g5, s5⟩ := MapI.At.store (w := w4.drew) (t := 52) (m.boxes.map.same hb4) (by kernel_rfl) Tryz.underlying52 (by rw [FM.length_vals]; unfold maxLen; omega) (MapI.w64 (x := s.next) (by have := st.good.next; omega) (by omega)) (vptr w2.heap.size)
  have hcell7 : ((s.cells g ov).setIfInBounds 1 (.int .i64 (s.next + 1)))[7]? = some (.map (some (g.ad .boxes))) := rfl
  refine ⟨(hc4.cell 7).trans hcell7, hn4.cell 0, w5, r5, ?_⟩
  have st4 : Step (fun t => t = .core) w2 g w4 g := (Step.of_below hb3 g _).trans (by rw [hw4]; exact Step.of_grown (only_setCell (only_refl _ (some (g.ad .core))) (.inl rfl) _) (fun k e => by cases e; exact m.core.lv.own))
  have st5 : Step (fun t => t = .core ∨ t = .boxes) w2 g w5 g := ((st4.mono fun t h => .inl h).drew).trans (Step.of_grown g5 (fun k e => by cases e; exact .inr m.boxes.lv.own))
  exact To.born st m st5 rfl (boot_good st.good hx hh) hn ((hc4.drew).grown g5 (fun e => hcb (Option.some.inj e))) (Nat.le_refl _) ((hn4.drew).grown g5 (fun e => by have := Option.some.inj e; omega)) a5
def Started (w : World) (g : G) (s s' : Core) (b : Box) (e : Ending) (w' : World) : Prop := ∃ g', e = .returned (vptr (g'.ad (.box b.id))) ∧ To w g s w' g' s'
set_option maxRecDepth 100000 in
set_option maxHeartbeats 8000000 in
theorem start_any {w : World} {g : G} {s s' : Core} {p : Nat} {f h : Int} {b : Box} (st : St w g s) (hp : g.ad .core = p) (hh : 0 ≤ h ∧ h < 32) (hs : s.start f h = some (s', b)) :
    Calls Tryz.prog 66 #[vptr p, .int .i64 f, .int .i64 h] w (Started w g s s' b) := by
  unfold Core.start at hs
  cases hx : FM.get s.fns f with
  | none => rw [hx] at hs; cases hs
  | some x =>
    rw [hx] at hs
    simp only at hs
    split at hs
    · next hn =>
      have hs1 := congrArg (fun o => o.map Prod.fst) hs
      have hs2 := congrArg (fun o => o.map Prod.snd) hs
      simp only [Option.map_some, Option.some.injEq] at hs1 hs2
      clear hs
      have gd := st.good
      obtain ⟨f0, f1, gx⟩ := gd.fns _ _ hx
      have wf : W64 f := w64_fn ⟨f0, f1⟩
      have hfk : Kept s (.fn f) := by show (FM.get s.fns f).isSome = true; rw [hx]; rfl
      obtain ⟨fm, hfm⟩ : ∃ t, g.ad .fns = t := ⟨_, rfl⟩
      obtain ⟨hm, hhm⟩ : ∃ t, g.ad .hosts = t := ⟨_, rfl⟩
      obtain ⟨fq, hfq⟩ : ∃ t, g.ad (.fn f) = t := ⟨_, rfl⟩
      have c4 := st.fns hp hfm
      have c5 := st.hosts hp hhm
      have hlk : (Instr.lookup 48 (.map (some fm)) (.int .i64 f) false).run Tryz.prog w = .ok (vptr fq) w := by
        have := fns_look st wf hfm
        rw [hx] at this
        simp only [Option.map_some, Option.getD_some, hfq] at this
        exact this
      have k1 : w.cell? ⟨fq, 1, none⟩ = some (.int .i64 x.mem) := (st.fnBlk hx hfq).cell 1
      obtain ⟨S1, hS1⟩ : ∃ S1 : Core, S1 = { s with hosts := s.hosts.take h x.mem } := ⟨_, rfl⟩
      have HT : Hid (∀ n, Calls Tryz.prog 111 #[vptr hm, .int .i64 h, .int .i64 x.mem] (w.drewN n) fun e w' => (∃ b, e = .returned b) ∧ To w g s w' g S1 ∧ w'.cell? ⟨p, 1, none⟩ = some (.int .i64 s.next) ∧ w'.cell? ⟨p, 0, none⟩ = some (.int .i64 s.now) ∧ w'.cell? ⟨fq, 1, none⟩ = some (.int .i64 x.mem)) := Lib.hid fun n => by
        refine (htake_use (st.drewN n) hhm h x.mem).mono ?_
        rintro e w' ⟨he, h2⟩
        have h3 := ((To.refl st).drewN n).trans h2.all
        rw [← hS1] at h3
        have n1 := h3.st.next hp
        have n0 := h3.st.now hp
        have nf := (h3.st.fnBlk (by rw [hS1]; exact hx) hfq).cell 1
        rw [hS1] at n1 n0
        exact ⟨he, h3, n1, n0, nf⟩
      have x1 : FM.get S1.fns f = some x := by rw [hS1]; exact hx
      have e1 : S1.next = s.next ∧ S1.now = s.now ∧ S1.out = s.out := by rw [hS1]; exact ⟨rfl, rfl, rfl⟩
      obtain ⟨nx, hnx⟩ : ∃ n, n = s.next := ⟨_, rfl⟩
      obtain ⟨now, hnow⟩ : ∃ n, n = s.now := ⟨_, rfl⟩
      obtain ⟨mm, hmm⟩ : ∃ n, n = x.mem := ⟨_, rfl⟩
      obtain ⟨S2, hS2⟩ : ∃ S2, S2 = S1.born (Core.boot f h nx mm now) := ⟨_, rfl⟩
      have e2 : s' = S2.told1 ⟨true, nx, f, h⟩ ∧ b = Core.boot f h nx mm now := by rw [← hs1, ← hs2, hS2, hS1, hnx, hnow, hmm]; exact ⟨rfl, rfl⟩
      rw [e2.1, e2.2]
      have HB : Hid (∀ w2, St w2 g S1 → ∀ w3, w3 = w2.drew.alloc (.cells (Core.boot f h nx mm now).cells 72) → w3.cell? ⟨p, 1, none⟩ = some (.int .i64 nx) ∧ w3.frozen? ⟨p, 1, none⟩ = false ∧ ∀ w4, w4 = w3.setCell ⟨p, 1, none⟩ (.int .i64 (nx + 1)) → w4.cell? ⟨p, 7, none⟩ = some (.map (some (g.ad .boxes))) ∧ w4.cell? ⟨w2.heap.size, 0, none⟩ = some (.int .i64 nx) ∧
          ∃ w5, (Instr.mapUpdate 52 (.map (some (g.ad .boxes))) (.int .i64 nx) (vptr w2.heap.size)).run Tryz.prog w4.drew = .ok () w5 ∧ To w2 g S1 w5 (g.set_ (.box nx) w2.heap.size) S2) := Lib.hid fun w2 st2 => by
        have := born_run st2 hp rfl x1 hh (by rw [e1.1]; exact hn)
        rw [e1.1, e1.2.1, ← hnx, ← hnow, ← hmm, ← hS2] at this
        exact this
      have hlen : ((S2.out.length + 1 + S2.boxes.length : Nat) : Int) ≤ 2 * S2.next := by
        have h1 := FM.length_put_new (a := Core.boot f h s.next x.mem s.now) (not_there gd)
        have h2 := gd.outs
        have h3 : S2.out.length = s.out.length := by rw [hS2, hS1]; rfl
        have h4 : S2.boxes.length = s.boxes.length + 1 := by rw [hS2, hS1, hnx, hnow, hmm]; exact h1
        have h5 : S2.next = s.next + 1 := by rw [hS2, hS1]; rfl
        rw [h3, h4, h5]
        omega
      have HLEN := Lib.hid hlen
      have hbox2 : FM.get S2.boxes nx = some (Core.boot f h nx mm now) := by
        rw [hS2]
        show FM.get (FM.put S1.boxes S1.next _) nx = _
        rw [e1.1, ← hnx, FM.get_put, if_pos rfl]
      have HBX := Lib.hid hbox2
      obtain ⟨i0, hi0, hz0, hz1, hz2⟩ := info_parts info_cmd
      have HI0 := Lib.hid (And.intro hi0 (And.intro hz0 (And.intro hz1 hz2)))
      have HP := Lib.hid hp
      have HB0 : Hid ((Core.boot f h nx mm now).cells[0]? = some (.int .i64 nx)) := Lib.hid rfl
      have HID : Hid ((Core.boot f h nx mm now).id = nx) := Lib.hid rfl
      rw [← hnx, ← hnow, ← hmm] at HT
      rw [← hmm] at k1
      have hnx0 : 0 ≤ nx := by rw [hnx]; have := gd.next; omega
      have hnx1 : nx < 1099511627776 := by rw [hnx]; exact hn
      clear hlen hbox2 hi0 hz0 hz1 hz2 hs1 hs2 hS1 hS2 hnx hnow hmm st hp hh hx hn gd f0 f1 gx wf hfk hfm hhm hfq x1 e1 e2
      go_enter Tryz.func66, Tryz.ntmps66
      go_upto_region 2 with (fail)
      go_still_tail 9, (by kernel_rfl)
      change wpList _ _ _ _ _ w.drew
      go_upto_region 3 with (go_at_call 111; refine (HT.out 1).mono ?_; rintro e w2 ⟨⟨v2, rfl⟩, h2, d1, d0, d3⟩; have H2 := Lib.hid h2; clear h2)
      go_still_tail 14, (by kernel_rfl)
      change wpList _ _ _ _ _ w2.drew
      have hb := HB.out w2 H2.out.st
      have HB2 := Lib.hid hb
      clear hb
      go_upto_region 4 with (go_at_call 112; refine (bnew_any _ _ _ _ _ _).mono ?_; rintro e w3 ⟨rfl, hw3⟩; obtain ⟨a1, f1, hk⟩ := HB2.out w3 hw3; have HK := Lib.hid hk; clear hk hw3)
      go_upto_region 5 with (fail)
      obtain ⟨b7, b0, w5, r5, h5⟩ := HK.out _ rfl
      have H5 := Lib.hid h5
      clear h5 a1 f1
      generalize w3.setCell ⟨p, 1, none⟩ (.int .i64 (nx + 1)) = w4 at b7 b0 r5 ⊢
      go_still_tail 9, (by kernel_rfl)
      change wpList _ _ _ _ _ w4.drew
      go_upto_region 6 with (fail)
      obtain ⟨ov, m⟩ := H5.out.st.mem
      obtain ⟨a, cap, hov, hcapN⟩ := out_open m.out
      subst hov
      have hp5 : (g.set_ (.box nx) w2.heap.size).ad .core = p := (G.set_ad_ne _ _ _ _ (by simp)).trans HP.out
      have hb5 : (g.set_ (.box nx) w2.heap.size).ad (.box nx) = w2.heap.size := G.set_ad _ _ _
      obtain ⟨N, hN⟩ : ∃ N, N = S2.out.length := ⟨_, rfl⟩
      have hown := m.out.row
      rw [← hN] at m hown hcapN
      have hgd := H5.out.st.good
      have hNb : N < 4398046511104 := by have := HLEN.out; have := hgd.next; omega
      obtain ⟨g5, hg5⟩ : ∃ g5, g5 = g.set_ (.box nx) w2.heap.size := ⟨_, rfl⟩
      rw [← hg5] at m H5 hp5 hb5
      have hbp : Blk w5 p 65 (S2.cells g5 (.slice a N cap)) := by have := m.core.blk; rw [hp5] at this; exact this
      have c10 : w5.cell? ⟨p, 10, none⟩ = some (.slice a N cap) := hbp.cell 10
      have d0' : w5.cell? ⟨w2.heap.size, 0, none⟩ = some (.int .i64 nx) := ((H5.out.st.box HBX.out hb5).cell 0).trans HB0.out
      have hne : (Value.slice a N cap).ownBlock ≠ some p := fun e => by
        obtain ⟨l, e2⟩ := m.out.tag _ e
        rw [← hp5] at e2
        exact (l.ne m.core.lv (by simp)) e2.symm
      have hm1 : N + 1 ≤ maxLen := by unfold maxLen; omega
      have hm2 : (N + 1) * 32 ≤ 140737488355328 := by omega
      have HM := Lib.hid (And.intro hm1 hm2)
      have HOWN := Lib.hid hown
      have KA := Lib.hid (fun (o : Obj) (w6 : World) (hg : (w5.alloc o).grownBy w6 (Value.slice a N cap).ownBlock) => ((hbp.alloc o).grown hg (fun e => hne e.symm)).frozen 10)
      have KP := Lib.hid (fun (o : Obj) (w6 : World) (hg : (w5.alloc o).grownBy w6 (Value.slice a N cap).ownBlock) => (show w6.cell? ⟨p, 10, none⟩ = some (.slice a N cap) from ((hbp.alloc o).grown hg (fun e => hne e.symm)).cell 10))
      have d1' : (w5.alloc (.cells #[.bool true, .int .i64 nx, .int .i64 f, .int .i64 h] 44)).drew.cell? ⟨p, 10, none⟩ = some (.slice a N cap) := (hbp.alloc _).cell 10
      have d1'' : (w5.alloc (.cells #[.bool true, .int .i64 nx, .int .i64 f, .int .i64 h] 44)).cell? ⟨p, 10, none⟩ = some (.slice a N cap) := (hbp.alloc _).cell 10
      have HMEM := Lib.hid m
      have HN := Lib.hid hN
      have HP1 := Lib.hid hp5
      have HB5 := Lib.hid hb5
      have HG5 := Lib.hid hg5
      clear m hown hgd hbp hne hm1 hm2 hN hcapN hp5 hb5 hg5 b7 b0 r5 d0 d1 d3 hlk k1 c4 c5
      generalize w2.heap.size = nb at d0' HB5 HG5 ⊢
      go_region_law
        (first
          | ((refine step_append_at _ (by rfl) _ _ _ (by rfl) 44 i0 (.agg #[.bool false, .int .i64 0, .int .i64 0, .int .i64 0]) 4 32 Tryz.underlying35 HI0.out.1 HI0.out.2.1 HI0.out.2.2.1 HI0.out.2.2.2 rfl (by decide) (.slice a N cap) N (S2.out.flatMap Cmd.cells) (by rfl) (HOWN.out.alloc _) ⟨w5.heap.size, 0, none⟩ 1 1 [.bool true, .int .i64 nx, .int .i64 f, .int .i64 h] (by rfl) rfl (fun j u hj => World.news_of_block (heap_alloc_new w5 _) j u hj) (cmd_one ⟨true, nx, f, h⟩) HM.out.1 HM.out.2 (by omega) ?_); intro r' cap' w6 hown5 hgrow5 hat5 hcap5; have fa5 := KA.out _ w6 ⟨hgrow5.os, hgrow5.tape, hgrow5.output, hgrow5.size, hgrow5.block⟩; have ca5 := KP.out _ w6 ⟨hgrow5.os, hgrow5.tape, hgrow5.output, hgrow5.size, hgrow5.block⟩))
      all_goals
        have hown6 := hown5
        rw [HN.out] at hown6
        obtain ⟨g', ht, had, _⟩ := To.out (w := w5) (c := ⟨true, nx, f, h⟩) (ov := .slice a N cap) H5.out.st HMEM.out HP1.out ((Below.refl w5.heap.size w5).alloc (Nat.le_refl _) (.cells #[.bool true, .int .i64 nx, .int .i64 f, .int .i64 h] 44)) hown6 ⟨hgrow5.os, hgrow5.tape, hgrow5.output, hgrow5.size, hgrow5.block⟩ hat5 HLEN.out
        have HT6 := Lib.hid (And.intro ht (had (.box nx) (by simp)))
        clear ht hown6 hown5 hgrow5 hat5 fa5 ca5 had
        rw [← HN.out] at HT6
        go_wp2
        go_ret
        exact ⟨g', by rw [HID.out, HT6.out.2, HB5.out]; rfl, H2.out.trans (H5.out.trans HT6.out.1)⟩
    · cases hs
end Go.Proofs.YtjmdgicdpggljaaGreat.GH

/- Proved: what core's pinned and free answer. -/
namespace Go.Proofs.YtjmdgicdpggljaaGreat.GH
open Go.RowKit Go.Proofs.YtjmdgicdpggljaaGreat.Histo Go.Proofs.YtjmdgicdpggljaaGreat.Event Go.Proofs.YtjmdgicdpggljaaGreat.Ring
set_option linter.unusedVariables false
open Go.Proofs.YtjmdgicdpggljaaGreat.MapG (Codec Mk)
open Go.Proofs.YtjmdgicdpggljaaGreat.MapI (AL At Rng W64)

theorem NumsOut.before {w w1 w' : World} {xs : List Int} {e : Ending} (hb : Below w.heap.size w w1) (h : NumsOut xs w1 e w') : NumsOut xs w e w' := by
  obtain ⟨v, rfl, h2, h3⟩ := h
  exact ⟨v, rfl, h2.base hb.size, below_step hb h3⟩
theorem old_cell {w W : World} (h : ∀ k, k < w.heap.size → W.heap[k]? = w.heap[k]?) {B : Nat} {t : TypeId} {cs : Array Value} (hb : Blk w B t cs) : Blk W B t cs := (h B hb.lt).trans hb
set_option maxHeartbeats 4000000 in
theorem pinned_any {w : World} {g : G} {s : Core} {p : Nat} {f : Int} (st : St w g s) (hp : g.ad .core = p) : Calls Tryz.prog 89 #[vptr p, .int .i64 f] w (NumsOut (s.pinned f) w) := by
  have hb1 := (Below.refl w.heap.size w).alloc (Nat.le_refl _) (.cells #[.int .i64 f] 3)
  have hbk := Blk.new w 3 #[.int .i64 f]
  have hw := where_any 122 #[vptr w.heap.size] (fun b => b.fn == f && b.pinned) _ g s (st.below hb1) (fun W pb b hW hbx => p_pinned pb w.heap.size b f W hbx ((old_cell hW hbk).cell 0)) (enters_of Tryz.func122 (by kernel_rfl) rfl)
  rw [hp] at hw
  have HW := Lib.hid hw
  have HB := Lib.hid hb1
  have e : s.where_ (fun b => b.fn == f && b.pinned) = s.pinned f := rfl
  rw [e] at HW
  clear st hp hb1 hbk hw e
  go_enter Tryz.func89, Tryz.ntmps89
  go_wp2_with (go_at_call 53; refine HW.out.mono ?_; rintro e w1 h1; obtain ⟨v, rfl, h2⟩ := h1.before HB.out; have H2 := Lib.hid h2; clear h1 h2)
  go_ret
  exact ⟨_, rfl, H2.out⟩

/-! ### free -/
def bptr (g : G) : Option Box → Value
  | none => .pointer none
  | some b => vptr (g.ad (.box b.id))
def Core.frees (s : Core) (f : Int) : List (Int × Box) := s.boxes.filter fun x => x.2.fn == f && x.2.idle
def Core.best (s : Core) (f : Int) (k : Nat) : Option Box := (((s.frees f).take k).map (·.2)).foldl Core.last none
theorem best_next (s : Core) (f : Int) (k : Nat) (h : k < (s.frees f).length) : s.best f (k + 1) = Core.last (s.best f k) ((s.frees f)[k]).2 := by
  unfold Core.best
  rw [List.take_succ_eq_append_getElem h, List.map_append, List.foldl_append]
  rfl
theorem best_all (s : Core) (f : Int) : s.best f (s.frees f).length = s.free f := by
  unfold Core.best Core.free Core.frees
  rw [List.take_length]
theorem best_in {s : Core} (gd : Good s) (hs : FM.Sorted s.boxes) (f : Int) : ∀ k b, s.best f k = some b → FM.get s.boxes b.id = some b := by
  intro k
  induction k with
  | zero => intro b h; cases h
  | succ k ih =>
    intro b h
    by_cases hk : k < (s.frees f).length
    · rw [best_next s f k hk] at h
      have hm : (s.frees f)[k] ∈ s.boxes := (List.mem_filter.1 (List.getElem_mem hk)).1
      have hg : FM.get s.boxes (s.frees f)[k].1 = some (s.frees f)[k].2 := FM.get_of_mem hs hm
      have hid := (gd.boxes _ _ hg).1
      unfold Core.last at h
      split at h
      · cases h; rw [hid]; exact hg
      · split at h
        · cases h; rw [hid]; exact hg
        · next h2 _ => cases h; exact ih _ h2
    · unfold Core.best at h ih
      rw [List.take_of_length_le (by omega)] at h ih
      exact ih b h
def FreeOut (v : Value) (w : World) (e : Ending) (w' : World) : Prop := e = .returned v ∧ Below w.heap.size w w'
set_option maxRecDepth 100000 in
set_option maxHeartbeats 8000000 in
theorem free_any {w : World} {g : G} {s : Core} {p : Nat} {f : Int} (st : St w g s) (hp : g.ad .core = p) : Calls Tryz.prog 61 #[vptr p, .int .i64 f] w (FreeOut (bptr g (s.free f)) w) := by
  have hb1 := (Below.refl w.heap.size w).alloc (Nat.le_refl _) (.cells #[.int .i64 f] 3)
  have hbk := Blk.new w 3 #[.int .i64 f]
  have hw := where_any 100 #[vptr w.heap.size] (fun b => b.fn == f && b.idle) _ g s (st.below hb1) (fun W pb b hW hbx => p_free pb w.heap.size b f W hbx ((old_cell hW hbk).cell 0)) (enters_of Tryz.func100 (by kernel_rfl) rfl)
  rw [hp] at hw
  have HW := Lib.hid hw
  have HB := Lib.hid hb1
  have gd := st.good
  have hs := st.sorted.2.2.2.1
  obtain ⟨n, hn⟩ : ∃ n, n = (s.frees f).length := ⟨_, rfl⟩
  have hxs : s.where_ (fun b => b.fn == f && b.idle) = (s.frees f).map (·.1) := rfl
  rw [hxs] at HW
  have hlen : n ≤ 2199023255552 := by
    have h1 : n ≤ s.boxes.length := by rw [hn]; exact List.length_filter_le _ _
    have := gd.outs; have := gd.next
    omega
  have HX : Hid (∀ k, k < n → ∃ b0 : Box, FM.get s.boxes (((s.frees f).map (·.1)).getD k 0) = some b0 ∧ b0.id = ((s.frees f).map (·.1)).getD k 0 ∧ s.best f (k + 1) = Core.last (s.best f k) b0) := Lib.hid fun k hk => by
    rw [hn] at hk
    have hm : (s.frees f)[k] ∈ s.boxes := (List.mem_filter.1 (List.getElem_mem hk)).1
    have hg : FM.get s.boxes (s.frees f)[k].1 = some (s.frees f)[k].2 := FM.get_of_mem hs hm
    have e : ((s.frees f).map (·.1)).getD k 0 = (s.frees f)[k].1 := by rw [List.getD_eq_getElem?_getD, List.getElem?_map, List.getElem?_eq_getElem hk]; rfl
    rw [e]
    exact ⟨_, hg, (gd.boxes _ _ hg).1, best_next s f k hk⟩
  have HI := Lib.hid (best_in gd hs f)
  have HA : Hid (s.best f n = s.free f) := Lib.hid (by rw [hn]; exact best_all s f)
  have HST := Lib.hid st
  have HGD := Lib.hid gd
  have hxn : ((s.frees f).map (·.1)).length = n := by rw [List.length_map, hn]
  obtain ⟨xs, hxe⟩ : ∃ xs, xs = (s.frees f).map (·.1) := ⟨_, rfl⟩
  rw [← hxe] at HW HX hxn
  have HXN := Lib.hid hxn
  have HP := Lib.hid hp
  obtain ⟨R, hR⟩ : ∃ R, R = s.free f := ⟨_, rfl⟩
  rw [← hR] at HA ⊢
  obtain ⟨bm, hbm⟩ : ∃ q, g.ad .boxes = q := ⟨_, rfl⟩
  have HBM := Lib.hid hbm
  clear st gd hs hp hb1 hbk hw hxs hn hxn hxe hR hbm
  go_enter Tryz.func61, Tryz.ntmps61
  go_wp2_with (go_at_call 53; refine HW.out.mono ?_; rintro e w1 ⟨v, rfl, hv, hb⟩; have hbw := below_step HB.out hb; have HBW := Lib.hid hbw; rcases hv with ⟨rfl, hx0⟩ | ⟨q, cap, cs, rfl, h1, h2, h3, h4, h5⟩)
  · have hn0 : n = 0 := by rw [← HXN.out, hx0]; rfl
    have HN0 := Lib.hid hn0
    clear hx0 hn0 hb hbw
    go_wp2
    refine wp_loop_rounds 1 ?_
    rw [rounds_succ]
    go_wp2
    go_ret
    have e0 : s.best f 0 = none := rfl
    have := HA.out
    rw [HN0.out, e0] at this
    exact ⟨by rw [← this]; rfl, HBW.out⟩
  · have hq : q < w1.heap.size := h4.lt
    have H5 := Lib.hid h5
    have H4 := Lib.hid h4
    have hxl := HXN.out
    rw [hxl] at h2 ⊢
    clear hb hbw h5 h4 hxl
    go_wp2
    go_loopw [5, 13] (fun bst i wr => ∃ k : Nat, k ≤ n ∧ i = .int .i64 k ∧ bst = bptr g (s.best f k) ∧ ∃ m, wr = w1.drewN m) (fun _ i _ => n - (intOf i).toNat)
    case atStart => exact ⟨0, by omega, rfl, rfl, 0, rfl⟩
    case round =>
      obtain ⟨k, hk, rfl, rfl, m, hw⟩ := hrel
      have HWR := Lib.hid hw
      by_cases hlt : k < n
      · obtain ⟨b0, hg, hid, hbn⟩ := HX.out k hlt
        have st2 : St wr g s := by rw [hw]; exact (HST.out.below HBW.out).drewN m
        have c7 := st2.boxes HP.out HBM.out
        have ck : wr.cell? ⟨q, k, none⟩ = some (.int .i64 (xs.getD k 0)) := by rw [hw]; exact (H4.out.cell k).trans (H5.out k (by rw [HXN.out]; exact hlt))
        have hlk : (Instr.lookup 52 (.map (some bm)) (.int .i64 (xs.getD k 0)) false).run Tryz.prog wr = .ok (vptr (g.ad (.box (xs.getD k 0)))) wr := by
          obtain ⟨ov, m'⟩ := st2.mem
          have := boxes_look m'.boxes (W := wr) (w64_box HGD.out hg).1 rfl
          rw [hg, HBM.out] at this
          exact this
        have s7 : wr.cell? ⟨g.ad (.box (xs.getD k 0)), 7, none⟩ = some (.int .i64 b0.since) := (st2.box hg rfl).cell 7
        obtain ⟨id, hide⟩ : ∃ i, i = xs.getD k 0 := ⟨_, rfl⟩
        rw [← hide] at ck hlk s7 hid
        obtain ⟨bq, hbq⟩ : ∃ i, i = g.ad (.box id) := ⟨_, rfl⟩
        rw [← hbq] at hlk s7
        have hz : (k : Int) < (n : Int) := by omega
        have HBN := Lib.hid hbn
        have HBQ := Lib.hid (And.intro hbq hid)
        have hptr : bptr g (some b0) = vptr bq := by show vptr (g.ad (.box b0.id)) = _; rw [hid, hbq]
        have HPTR := Lib.hid hptr
        cases hbst : s.best f k with
        | none =>
          have e2 : s.best f (k + 1) = some b0 := by rw [hbn, hbst]; rfl
          have E2 := Lib.hid e2
          clear hbn hbst e2 hg hw hide hbq hid hptr st2
          show Code.wp _ _ _ { tmps := #[_, _, _, _, _, .pointer none, _, _, _, _, _, _, _, _, _, _, _, _, _, _, _, _, _, _, _, _, _, _, _, _, _, _, _, _, _, _, _, _, _], defers := _ } _
          go_upto_region 6 with (fail)
          go_quiet (fail)
          go_wp2
          go_roundw
          case rel => exact ⟨k + 1, by omega, by go_num, by rw [E2.out, HPTR.out], _, by rw [HWR.out, World.drewN_drewN]⟩
          case measure => simp [intOf]; omega
        | some c =>
          have hcg := HI.out k c hbst
          have c7c : wr.cell? ⟨g.ad (.box c.id), 7, none⟩ = some (.int .i64 c.since) := (st2.box hcg rfl).cell 7
          have hcp : bptr g (some c) = vptr (g.ad (.box c.id)) := rfl
          obtain ⟨cq, hcq⟩ : ∃ i, i = g.ad (.box c.id) := ⟨_, rfl⟩
          rw [← hcq] at c7c hcp
          have HCP := Lib.hid hcp
          rw [hcp]
          obtain ⟨x, hx⟩ : ∃ x, x = c.since := ⟨_, rfl⟩
          obtain ⟨y, hy⟩ : ∃ y, y = b0.since := ⟨_, rfl⟩
          rw [← hx] at c7c
          rw [← hy] at s7
          by_cases hlt2 : x < y
          · have e2 : s.best f (k + 1) = some b0 := by rw [hbn, hbst]; unfold Core.last; simp only; rw [if_pos (by rw [← hx, ← hy]; exact hlt2)]
            have E2 := Lib.hid e2
            have d1 : decide (x < y) = true := by simpa using hlt2
            clear hbn hbst e2 hg hw hide hbq hid hptr st2 hcp hcg hcq hx hy hlt2
            go_upto_region 6 with (fail)
            go_quiet (fail)
            go_wp2
            go_roundw
            case rel => exact ⟨k + 1, by omega, by go_num, by rw [E2.out, HPTR.out], _, by rw [HWR.out, World.drewN_drewN]⟩
            case measure => simp [intOf]; omega
          · have e2 : s.best f (k + 1) = some c := by rw [hbn, hbst]; unfold Core.last; simp only; rw [if_neg (by rw [← hx, ← hy]; exact hlt2)]
            have E2 := Lib.hid e2
            have d1 : decide (x < y) = false := by simpa using hlt2
            clear hbn hbst e2 hg hw hide hbq hid hptr st2 hcp hcg hcq hx hy hlt2
            go_upto_region 6 with (fail)
            go_quiet (fail)
            go_wp2
            go_roundw
            case rel => exact ⟨k + 1, by omega, by go_num, by rw [E2.out, HCP.out], _, by rw [HWR.out, World.drewN_drewN]⟩
            case measure => simp [intOf]; omega
      · have hkn : k = n := by omega
        have hz : ¬ (k : Int) < (n : Int) := by omega
        have HKN := Lib.hid hkn
        clear hkn hw
        go_wp2
        go_ret
        exact ⟨by rw [← HA.out, HKN.out]; rfl, by rw [HWR.out]; exact below_drewN HBW.out m⟩
end Go.Proofs.YtjmdgicdpggljaaGreat.GH

/- Proved: what core's ahead leaves. -/
namespace Go.Proofs.YtjmdgicdpggljaaGreat.GH
open Go.RowKit Go.Proofs.YtjmdgicdpggljaaGreat.Histo Go.Proofs.YtjmdgicdpggljaaGreat.Event Go.Proofs.YtjmdgicdpggljaaGreat.Ring
set_option linter.unusedVariables false
open Go.Proofs.YtjmdgicdpggljaaGreat.MapG (Codec Mk)
open Go.Proofs.YtjmdgicdpggljaaGreat.MapI (AL At Rng W64)

theorem til_put {w : World} {g : G} {s : Core} {q : Nat} (st : St w g s) (hq : g.ad .til = q) {id t : Int} (h0 : 1 ≤ id) (h1 : id < s.next) (h2 : 0 ≤ t ∧ t ≤ 4398046511104) :
    ∃ w', (Instr.mapUpdate 53 (.map (some q)) (.int .i64 id) (.int .i64 t)).run Tryz.prog w = .ok () w' ∧ ToS (fun t => t = .til) w g s w' { s with til := FM.put s.til id t } := by
  subst hq
  obtain ⟨ov, m⟩ := st.mem
  have hlen : s.til.length ≤ 1099511627776 := by
    have h := FM.length_le (n := s.next.toNat) m.til.sorted (fun p hp => by obtain ⟨h2, h3, _⟩ := st.good.til p.1 p.2 (FM.get_of_mem m.til.sorted hp); omega)
    have := st.good.next
    omega
  obtain ⟨w', r1, a1, g1, s1⟩ := MapI.At.store (t := 53) m.til.map (by kernel_rfl) Tryz.underlying53 (by rw [FM.length_vals]; unfold maxLen; omega) (MapI.w64 (x := id) (by omega) (by have := st.good.next; omega)) (.int .i64 t)
  have s2 : Step (fun t => t = .til) w g w' g := Step.of_grown g1 (fun k e => by cases e; exact m.til.lv.own)
  have hp := FM.put_vals (fun _ (x : Int) => Value.int .i64 x) s.til id t
  rw [hp] at a1
  refine ⟨w', r1, ToS.mk' (m.turn s2 { s with til := FM.put s.til id t } ov (fun _ _ => rfl) (til := .inr ⟨⟨m.til.lv.own, Nat.lt_of_lt_of_le m.til.lv.lt s2.size⟩, Mp.of a1⟩)) ⟨st.good.now, st.good.next, st.good.toks, st.good.fns, st.good.caches, st.good.boxes, fun k x hk => ?_, st.good.ans, st.good.outs⟩ s2 (by simp) (fun t ht => ht)⟩
  have hk2 : FM.get (FM.put s.til id t) k = some x := hk
  rw [FM.get_put] at hk2
  by_cases e : k = id
  · rw [if_pos e] at hk2; cases hk2; subst e; exact ⟨h0, h1, h2⟩
  · rw [if_neg e] at hk2; exact st.good.til k x hk2
theorem start_parts {s t : Core} {f h : Int} {b : Box} (hs : s.start f h = some (t, b)) : t.fns = s.fns ∧ t.til = s.til ∧ b.id = s.next ∧ t.next = s.next + 1 ∧ FM.get t.boxes b.id = some b ∧ t.toks = s.toks ∧ t.quota = s.quota ∧ t.timers = s.timers ∧ t.now = s.now ∧ b.fn = f := by
  unfold Core.start at hs
  split at hs
  · cases hs
  · split at hs
    · cases hs
      refine ⟨rfl, rfl, rfl, rfl, ?_, rfl, rfl, rfl, rfl, rfl⟩
      show FM.get (FM.put s.boxes s.next _) s.next = _
      rw [FM.get_put, if_pos rfl]
    · cases hs
theorem Nums.slice {base : Nat} {w : World} {v : Value} {xs : List Int} (h : Nums base w v xs) : ∃ a cap, v = .slice a xs.length cap := by
  rcases h with ⟨h, hx⟩ | ⟨q, cap, cs, h, _⟩
  · exact ⟨none, 0, by rw [h, hx]; rfl⟩
  · exact ⟨_, cap, h⟩
theorem fit_lt (s : Hosts) (mem : Int) : s.fit mem < 32 := (fit_bd s mem 32).2
set_option maxRecDepth 100000 in
set_option maxHeartbeats 8000000 in
theorem ahead_fresh {w : World} {g : G} {s s' : Core} {p : Nat} {f : Int} (hfr : ∀ k, w.heap.size ≤ k → g.own k = .none) (st : St w g s) (hp : g.ad .core = p) (hs : s.ahead f = some s') : Calls Tryz.prog 43 #[vptr p, .int .i64 f] w (Post (.tuple #[]) w g s s') := by
  unfold Core.ahead at hs
  cases hx : FM.get s.fns f with
  | none => rw [hx] at hs; cases hs
  | some x =>
    rw [hx] at hs
    simp only at hs
    have gd := st.good
    obtain ⟨f0, f1, gx⟩ := gd.fns _ _ hx
    have wf : W64 f := w64_fn ⟨f0, f1⟩
    have hfk : Kept s (.fn f) := by show (FM.get s.fns f).isSome = true; rw [hx]; rfl
    obtain ⟨fm, hfm⟩ : ∃ t, g.ad .fns = t := ⟨_, rfl⟩
    obtain ⟨tm, htm⟩ : ∃ t, g.ad .til = t := ⟨_, rfl⟩
    obtain ⟨hm, hhm⟩ : ∃ t, g.ad .hosts = t := ⟨_, rfl⟩
    obtain ⟨fq, hfq⟩ : ∃ t, g.ad (.fn f) = t := ⟨_, rfl⟩
    have hb1 := (Below.refl w.heap.size w).alloc (Nat.le_refl _) (.cells #[.int .i64 f] 3)
    have hbk := Blk.new w 3 #[.int .i64 f]
    have hw := where_any 84 #[vptr w.heap.size] (fun b => b.fn == f) _ g s (st.below hb1) (fun W pb b hW hbx => p_ahead pb w.heap.size b f W hbx ((old_cell hW hbk).cell 0)) (enters_of Tryz.func84 (by kernel_rfl) rfl)
    rw [hp] at hw
    have HW := Lib.hid hw
    have HB := Lib.hid hb1
    have HBK := Lib.hid hbk
    obtain ⟨xs, hxs⟩ : ∃ xs, xs = s.where_ (fun b => b.fn == f) := ⟨_, rfl⟩
    rw [← hxs] at HW hs
    have HF : Hid (∀ W, Below w.heap.size w W → St W g s ∧ W.cell? ⟨p, 4, none⟩ = some (.map (some fm)) ∧ W.cell? ⟨p, 5, none⟩ = some (vptr hm) ∧ (Instr.lookup 48 (.map (some fm)) (.int .i64 f) false).run Tryz.prog W = .ok (vptr fq) W ∧
        W.cell? ⟨fq, 1, none⟩ = some (.int .i64 x.mem) ∧ Calls Tryz.prog 85 #[vptr hm, .int .i64 x.mem] W (RetV (fitVal (s.hosts.fit x.mem)) W)) := Lib.hid fun W hb => by
      have s1 := st.below hb
      have hl := fns_look s1 wf hfm
      rw [hx] at hl
      simp only [Option.map_some, Option.getD_some, hfq] at hl
      exact ⟨s1, s1.fns hp hfm, s1.hosts hp hhm, hl, (s1.fnBlk hx hfq).cell 1, hfit_use s1 hhm x.mem⟩
    have HST := Lib.hid st
    obtain ⟨ft, hft⟩ : ∃ ft, ft = s.hosts.fit x.mem := ⟨_, rfl⟩
    have hf32 : ft < 32 := by rw [hft]; exact fit_lt _ _
    rw [← hft] at HF hs
    obtain ⟨mm, hmm⟩ : ∃ m, m = x.mem := ⟨_, rfl⟩
    rw [← hmm] at HF
    have HS := Lib.hid hs
    have HX := Lib.hid hx
    have HM := Lib.hid (And.intro hp (And.intro hfm (And.intro htm (And.intro hhm (And.intro hfq (And.intro wf hfk))))))
    clear st gd f0 f1 gx wf hfk hfm htm hhm hfq hb1 hbk hw hxs hft hmm hs hx hp
    go_enter Tryz.func43, Tryz.ntmps43
    go_upto_region 2 with (go_at_call 53; refine HW.out.mono ?_; rintro e w1 ⟨v, rfl, hv, hb⟩; have HV := Lib.hid hv; have HB1 := Lib.hid (below_step HB.out hb); have hc := (HBK.out.below hb HBK.out.lt).cell 0; simp only [List.getElem?_toArray, List.getElem?_cons_zero] at hc; have HBK1 := Lib.hid (HBK.out.below hb HBK.out.lt); clear hv hb)
    obtain ⟨va, vcap, hv2⟩ := HV.out.slice
    subst hv2
    obtain ⟨n, hn⟩ : ∃ n, n = xs.length := ⟨_, rfl⟩
    rw [← hn] at HV ⊢
    have HN := Lib.hid hn
    clear hn
    obtain ⟨hst1, c4, c5, hlk, k1, hfit⟩ := HF.out w1 HB1.out
    have HST1 := Lib.hid hst1
    clear hst1
    have hlkn : ∀ n, (Instr.lookup 48 (.map (some fm)) (.int .i64 f) false).run Tryz.prog (w1.drewN n) = .ok (vptr fq) (w1.drewN n) := fun n => (HF.out _ (below_drewN HB1.out n)).2.2.2.1
    have HFIT : Hid (∀ n, Calls Tryz.prog 85 #[vptr hm, .int .i64 mm] (w1.drewN n) (RetV (fitVal ft) (w1.drewN n))) := Lib.hid fun n => (HF.out _ (below_drewN HB1.out n)).2.2.2.2.2
    have HFIT0 := Lib.hid hfit
    clear hfit hlk
    unfold fitVal at HFIT HFIT0
    have hown : g.own w.heap.size = .none := hfr _ (Nat.le_refl _)
    have HOWN := Lib.hid hown
    clear hown
    generalize w.heap.size = bq at hc HBK1 HOWN ⊢
    go_quiet ((go_at_call 85; first | exact Calls.quiet_of HFIT0.out | exact Calls.quiet_of (HFIT.out _)))
    have HBq : Hid (Below w.heap.size w (w1.drewN nq)) := Lib.hid (below_drewN HB1.out nq)
    by_cases hn0 : n = 0
    · subst hn0
      have hx0 : xs = [] := List.length_eq_zero_iff.1 HN.out.symm
      by_cases hft : ft < 0
      · have d1 : decide (0 ≤ ft) = false := by simpa using hft
        have hs := HS.out
        rw [if_pos (.inr hft)] at hs
        cases hs
        clear hft hx0
        go_wp2
        go_end0
        exact ⟨rfl, g, To.below HST.out HBq.out⟩
      · have d1 : decide (0 ≤ ft) = true := by simpa using hft
        have hs := HS.out
        rw [if_neg (by rintro (h | h); exact h hx0; exact hft h)] at hs
        have e1 : max ft 0 = ft := by omega
        rw [e1]
        cases hst : s.start f ft with
        | none => rw [hst] at hs; cases hs
        | some tb =>
          obtain ⟨t, b⟩ := tb
          rw [hst] at hs
          simp only at hs
          obtain ⟨p1, p2, p3, p4, p5, _⟩ := start_parts hst
          have hgx : FM.get t.fns f = some x := by rw [p1]; exact HX.out
          rw [hgx] at hs
          cases hs
          clear hgx
          obtain ⟨hp, hfm, htm, hhm, hfq, wf, hfk⟩ := HM.out
          have CE : ∀ w' g' s2, To (w1.drewN nq) g s w' g' s2 → s2.fns = s.fns → w'.cell? ⟨p, 8, none⟩ = some (.map (some tm)) ∧ w'.cell? ⟨p, 4, none⟩ = some (.map (some fm)) ∧ w'.cell? ⟨bq, 0, none⟩ = some (.int .i64 f) ∧ (Instr.lookup 48 (.map (some fm)) (.int .i64 f) false).run Tryz.prog w' = .ok (vptr fq) w' ∧ w'.cell? ⟨fq, 6, none⟩ = some (.int .i64 x.til) := fun w' g' s2 h2 hfn => by
            have e1 := (h2.head (t := .core) trivial).trans hp
            have hx2 : FM.get s2.fns f = some x := by rw [hfn]; exact HX.out
            have hl := fns_look h2.st wf ((h2.head (t := .fns) trivial).trans hfm)
            have e3 := (h2.ad _ hfk).trans hfq
            rw [hx2] at hl
            simp only [Option.map_some, Option.getD_some, e3] at hl
            have hbb := (h2.blk (HBK1.out.drewN nq) HOWN.out).cell 0
            exact ⟨h2.st.til e1 ((h2.head (t := .til) trivial).trans htm), h2.st.fns e1 ((h2.head (t := .fns) trivial).trans hfm), hbb, hl, (h2.st.fnBlk hx2 e3).cell 6⟩
          have stq := HST1.out.drewN nq
          have gx := (stq.good.fns _ _ HX.out).2.2
          have HSTART : Hid (∀ m, Calls Tryz.prog 66 #[vptr p, .int .i64 f, .int .i64 ft] (w1.drewN m) fun e w2 => ∃ nb, e = .returned (vptr nb) ∧ w2.cell? ⟨nb, 0, none⟩ = some (.int .i64 b.id) ∧ (w2.cell? ⟨p, 8, none⟩ = some (.map (some tm)) ∧ w2.cell? ⟨p, 4, none⟩ = some (.map (some fm)) ∧ w2.cell? ⟨bq, 0, none⟩ = some (.int .i64 f) ∧ (Instr.lookup 48 (.map (some fm)) (.int .i64 f) false).run Tryz.prog w2 = .ok (vptr fq) w2 ∧ w2.cell? ⟨fq, 6, none⟩ = some (.int .i64 x.til)) ∧
              ∃ w3, (Instr.mapUpdate 53 (.map (some tm)) (.int .i64 b.id) (.int .i64 x.til)).run Tryz.prog w2 = .ok () w3 ∧ (w3.cell? ⟨p, 8, none⟩ = some (.map (some tm)) ∧ w3.cell? ⟨p, 4, none⟩ = some (.map (some fm)) ∧ w3.cell? ⟨bq, 0, none⟩ = some (.int .i64 f) ∧ (Instr.lookup 48 (.map (some fm)) (.int .i64 f) false).run Tryz.prog w3 = .ok (vptr fq) w3 ∧ w3.cell? ⟨fq, 6, none⟩ = some (.int .i64 x.til)) ∧
              ∃ g3, To w g s w3 g3 { t with til := FM.put t.til b.id x.til }) := Lib.hid fun m => by
            refine (start_any (HST1.out.drewN m) hp ⟨by omega, hf32⟩ hst).mono ?_
            rintro e w2 ⟨g2, rfl, h2⟩
            have h2' : To (w1.drewN nq) g s w2 g2 t := To.before (w := w1.drewN nq) (w' := w1.drewN m) ⟨rfl, rfl, rfl, Nat.le_refl _, fun _ _ => rfl⟩ h2
            have hbx := (h2.st.box p5 rfl).cell 0
            obtain ⟨w3, r3, h3⟩ := til_put h2.st ((h2.head (t := .til) trivial).trans htm) (id := b.id) (t := x.til) (by rw [p3]; exact stq.good.next.1) (by rw [p3, p4]; omega) gx.til
            have h4 := h2'.trans h3.all
            exact ⟨_, rfl, hbx, CE _ _ _ h2' p1, w3, r3, CE _ _ _ h4 p1, g2, To.before HBq.out h4⟩
          obtain ⟨a1, a2, a3, a4, a5⟩ := CE _ _ _ (To.refl stq) rfl
          have a4n : ∀ m, (Instr.lookup 48 (.map (some fm)) (.int .i64 f) false).run Tryz.prog (w1.drewN m) = .ok (vptr fq) (w1.drewN m) := hlkn
          obtain ⟨xt, hxt⟩ : ∃ xt, xt = x.til := ⟨_, rfl⟩
          obtain ⟨bi, hbi⟩ : ∃ bi, bi = b.id := ⟨_, rfl⟩
          obtain ⟨S2, hS2⟩ : ∃ S2 : Core, S2 = { t with til := FM.put t.til b.id x.til } := ⟨_, rfl⟩
          rw [← hS2] at HSTART
          have HS2 := Lib.hid hS2
          rw [← hxt] at HSTART a5
          rw [← hbi] at HSTART
          clear CE stq gx hp hfm htm hhm hfq wf hfk p1 p2 p3 p4 p5 hst hS2 hxt hbi hft hx0
          go_upto_region 4 with (fail)
          refine wp_region_held_drew (S := (fun w' => w'.cell? ⟨p, 8, none⟩ = some (.map (some tm)) ∧ w'.cell? ⟨p, 4, none⟩ = some (.map (some fm)) ∧ w'.cell? ⟨bq, 0, none⟩ = some (.int .i64 f) ∧ (Instr.lookup 48 (.map (some fm)) (.int .i64 f) false).run Tryz.prog w' = .ok (vptr fq) w' ∧ w'.cell? ⟨fq, 6, none⟩ = some (.int .i64 xt))) (by kernel_rfl) ?_ (fun hHeld => ?_)
          · (refine ⟨?_, ?_, ?_, ?_, ?_⟩ <;> first | assumption | exact a4n _ | go_keep)
          refine wpAnyH_take (i := 0) (oi := _) (v := _) rfl (by kernel_rfl) (by kernel_rfl) (by kernel_rfl) (fun _ _ _ h => h) (Or.inl ⟨by rfl, (by rintro W ⟨q0, q1, q2, q3, q4⟩; go_simp; first | done | with_reducible rfl)⟩) (by assumption) ?_
          try simp only [Act.put, List.setIfInBounds_toArray, List.set_cons_zero, List.set_cons_succ]
          refine wpAnyH_take (i := 1) (oi := _) (v := _) rfl (by kernel_rfl) (by kernel_rfl) (by kernel_rfl) (fun _ _ _ h => h) (Or.inl ⟨by rfl, (by rintro W ⟨q0, q1, q2, q3, q4⟩; go_simp; first | done | with_reducible rfl)⟩) (by assumption) ?_
          try simp only [Act.put, List.setIfInBounds_toArray, List.set_cons_zero, List.set_cons_succ]
          refine wpAnyH_take (i := 2) (oi := _) (v := _) rfl (by kernel_rfl) (by kernel_rfl) (by kernel_rfl) (fun _ _ _ h => h) (Or.inl ⟨by rfl, (by rintro W ⟨q0, q1, q2, q3, q4⟩; go_simp; first | done | with_reducible rfl)⟩) (by assumption) ?_
          try simp only [Act.put, List.setIfInBounds_toArray, List.set_cons_zero, List.set_cons_succ]
          refine wpAnyH_take (i := 3) (oi := _) (v := _) rfl (by kernel_rfl) (by kernel_rfl) (by kernel_rfl) (fun _ _ _ h => h) (Or.inl ⟨by rfl, (by rintro W ⟨q0, q1, q2, q3, q4⟩; go_simp; first | done | with_reducible rfl)⟩) (by assumption) ?_
          try simp only [Act.put, List.setIfInBounds_toArray, List.set_cons_zero, List.set_cons_succ]
          refine wpAnyH_take (i := 4) (oi := _) (v := _) rfl (by kernel_rfl) (by kernel_rfl) (by kernel_rfl) (fun _ _ _ h => h) (Or.inl ⟨by rfl, (by rintro W ⟨q0, q1, q2, q3, q4⟩; go_simp; first | done | with_reducible rfl)⟩) (by assumption) ?_
          try simp only [Act.put, List.setIfInBounds_toArray, List.set_cons_zero, List.set_cons_succ]
          refine wpAnyH_take (i := 5) (oi := _) (v := _) rfl (by kernel_rfl) (by kernel_rfl) (by kernel_rfl) (fun _ _ _ h => h) (Or.inl ⟨by rfl, (by rintro W ⟨q0, q1, q2, q3, q4⟩; go_simp; first | done | with_reducible rfl)⟩) (by assumption) ?_
          try simp only [Act.put, List.setIfInBounds_toArray, List.set_cons_zero, List.set_cons_succ]
          refine wpAnyH_take (i := 6) (oi := _) (v := _) rfl (by kernel_rfl) (by kernel_rfl) (by kernel_rfl) (fun _ _ _ h => h) (Or.inl ⟨by rfl, (by rintro W ⟨q0, q1, q2, q3, q4⟩; go_simp; first | done | with_reducible rfl)⟩) (by assumption) ?_
          try simp only [Act.put, List.setIfInBounds_toArray, List.set_cons_zero, List.set_cons_succ]
          refine wpAnyH_take (i := 11) (oi := _) (v := _) rfl (by kernel_rfl) (by kernel_rfl) (by kernel_rfl) (fun _ _ _ h => h) (Or.inl ⟨by rfl, (by rintro W ⟨q0, q1, q2, q3, q4⟩; go_simp; first | done | with_reducible rfl)⟩) (by assumption) ?_
          try simp only [Act.put, List.setIfInBounds_toArray, List.set_cons_zero, List.set_cons_succ]
          refine wpAnyH_take (i := 12) (oi := _) (v := _) rfl (by kernel_rfl) (by kernel_rfl) (by kernel_rfl) (fun _ _ _ h => h) (Or.inl ⟨by rfl, (by rintro W ⟨q0, q1, q2, q3, q4⟩; go_simp; first | done | with_reducible rfl)⟩) (by assumption) ?_
          try simp only [Act.put, List.setIfInBounds_toArray, List.set_cons_zero, List.set_cons_succ]
          refine wpAnyH_take (i := 13) (oi := _) (v := _) rfl (by kernel_rfl) (by kernel_rfl) (by kernel_rfl) (fun _ _ _ h => h) (Or.inl ⟨by rfl, (by rintro W ⟨q0, q1, q2, q3, q4⟩; go_simp; first | done | with_reducible rfl)⟩) (by assumption) ?_
          try simp only [Act.put, List.setIfInBounds_toArray, List.set_cons_zero, List.set_cons_succ]
          refine wpAnyH_take (i := 14) (oi := _) (v := _) rfl (by kernel_rfl) (by kernel_rfl) (by kernel_rfl) (fun _ _ _ h => h) (Or.inl ⟨by rfl, (by rintro W ⟨q0, q1, q2, q3, q4⟩; go_simp; first | done | with_reducible rfl)⟩) (by assumption) ?_
          try simp only [Act.put, List.setIfInBounds_toArray, List.set_cons_zero, List.set_cons_succ]
          refine wpAnyH_take (i := 15) (oi := _) (v := _) rfl (by kernel_rfl) (by kernel_rfl) (by kernel_rfl) (fun _ _ _ h => h) (Or.inl ⟨by rfl, (by rintro W ⟨q0, q1, q2, q3, q4⟩; go_simp; first | done | with_reducible rfl)⟩) (by assumption) ?_
          try simp only [Act.put, List.setIfInBounds_toArray, List.set_cons_zero, List.set_cons_succ]
          refine wpAnyH_take (i := 16) (oi := _) (v := _) rfl (by kernel_rfl) (by kernel_rfl) (by kernel_rfl) (fun _ _ _ h => h) (Or.inl ⟨by rfl, (by rintro W ⟨q0, q1, q2, q3, q4⟩; go_simp; first | done | with_reducible rfl)⟩) (by assumption) ?_
          try simp only [Act.put, List.setIfInBounds_toArray, List.set_cons_zero, List.set_cons_succ]
          refine wpAnyH_take (i := 17) (oi := _) (v := _) rfl (by kernel_rfl) (by kernel_rfl) (by kernel_rfl) (fun _ _ _ h => h) (Or.inl ⟨by rfl, (by rintro W ⟨q0, q1, q2, q3, q4⟩; go_simp; first | done | with_reducible rfl)⟩) (by assumption) ?_
          try simp only [Act.put, List.setIfInBounds_toArray, List.set_cons_zero, List.set_cons_succ]
          refine wpAnyH_take (i := 18) (oi := _) (v := _) rfl (by kernel_rfl) (by kernel_rfl) (by kernel_rfl) (fun _ _ _ h => h) (Or.inl ⟨by rfl, (by rintro W ⟨q0, q1, q2, q3, q4⟩; go_simp; first | done | with_reducible rfl)⟩) (by assumption) ?_
          try simp only [Act.put, List.setIfInBounds_toArray, List.set_cons_zero, List.set_cons_succ]
          refine wpAnyH_take (i := 19) (oi := _) (v := _) rfl (by kernel_rfl) (by kernel_rfl) (by kernel_rfl) (fun _ _ _ h => h) (Or.inl ⟨by rfl, (by rintro W ⟨q0, q1, q2, q3, q4⟩; go_simp; first | done | with_reducible rfl)⟩) (by assumption) ?_
          try simp only [Act.put, List.setIfInBounds_toArray, List.set_cons_zero, List.set_cons_succ]
          refine wpAnyH_ready (rs := [7]) (by kernel_rfl) (by simp) ?_
          refine AllReadyH.cons rfl (fun K hK => ?_) AllReadyH.nil
          go_simp
          go_wp2_with (go_at_call 66; refine (HSTART.out _).mono ?_; rintro e w2 ⟨nb, rfl, x0, hs2, w3, r3, hs3, g3, h3⟩; have H3 := Lib.hid h3; have HS3 := Lib.hid hs2; clear h3 hs2)
          refine hK.out _ _ HS3.out (fun hHeld2 => ?_)
          clear hK K hHeld
          refine wpAnyH_take (i := 8) (oi := _) (v := _) rfl (by kernel_rfl) (by kernel_rfl) (by kernel_rfl) (fun _ _ _ h => h) (Or.inl ⟨by rfl, (by rintro W ⟨q0, q1, q2, q3, q4⟩; go_simp; first | done | with_reducible rfl)⟩) (by assumption) ?_
          try simp only [Act.put, List.setIfInBounds_toArray, List.set_cons_zero, List.set_cons_succ]
          refine wpAnyH_take (i := 9) (oi := _) (v := _) rfl (by kernel_rfl) (by kernel_rfl) (by kernel_rfl) (fun _ _ _ h => h) (Or.inl ⟨by rfl, (by rintro W ⟨q0, q1, q2, q3, q4⟩; go_simp; first | done | with_reducible rfl)⟩) (by assumption) ?_
          try simp only [Act.put, List.setIfInBounds_toArray, List.set_cons_zero, List.set_cons_succ]
          refine wpAnyH_ready (rs := [10]) (by kernel_rfl) (by simp) ?_
          refine AllReadyH.cons rfl (fun K hK => ?_) AllReadyH.nil
          go_simp
          refine hK.out _ _ HS3.out (fun hHeld3 => ?_)
          clear hK K hHeld2
          try simp only [Act.put, List.setIfInBounds_toArray, List.set_cons_zero, List.set_cons_succ]
          refine wpAnyH_ready (rs := [20]) (by kernel_rfl) (by simp) ?_
          refine AllReadyH.cons rfl (fun K hK => ?_) AllReadyH.nil
          go_simp
          refine hK.out _ _ hs3 (fun hHeld4 => ?_)
          clear hK K hHeld3
          refine wpAnyH_done (by kernel_rfl) ?_ _
          go_wp2
          go_end0
          exact ⟨rfl, g3, by have h := H3.out; rw [HS2.out] at h; exact h⟩
    · have hn1 : 0 < n := by omega
      have hn2 : (0 : Int) < n := by omega
      have hs := HS.out
      rw [if_pos (.inl (fun e => hn0 (by rw [HN.out, e]; rfl)))] at hs
      cases hs
      clear hn0
      go_wp2
      go_end0
      exact ⟨rfl, g, To.below HST.out HBq.out⟩
theorem Post.fresh {v : Value} {w : World} {g : G} {s s' : Core} {e : Ending} {w' : World} (st : St w g s) (h : Post v w (g.fresh w.heap.size) s s' e w') : Post v w g s s' e w' := ⟨h.1, by obtain ⟨g', h2⟩ := h.2; exact ⟨g', (To.fresh st).trans h2⟩⟩
theorem ahead_any {w : World} {g : G} {s s' : Core} {p : Nat} {f : Int} (st : St w g s) (hp : g.ad .core = p) (hs : s.ahead f = some s') : Calls Tryz.prog 43 #[vptr p, .int .i64 f] w (Post (.tuple #[]) w g s s') :=
  (ahead_fresh (fun _ hk => fresh_own hk) (To.fresh st).st hp hs).mono fun _ _ h => h.fresh st
end Go.Proofs.YtjmdgicdpggljaaGreat.GH

/- Proved: what core's spare answers. -/
namespace Go.Proofs.YtjmdgicdpggljaaGreat.GH
open Go.RowKit Go.Proofs.YtjmdgicdpggljaaGreat.Histo Go.Proofs.YtjmdgicdpggljaaGreat.Event Go.Proofs.YtjmdgicdpggljaaGreat.Ring
set_option linter.unusedVariables false
open Go.Proofs.YtjmdgicdpggljaaGreat.MapG (Codec Mk)
open Go.Proofs.YtjmdgicdpggljaaGreat.MapI (AL At Rng W64)

theorem where_head (s : Core) (pred : Box → Bool) : (s.where_ pred = [] ∧ (s.boxes.find? fun x => pred x.2) = none) ∨ ∃ id b r, s.where_ pred = id :: r ∧ (s.boxes.find? fun x => pred x.2) = some (id, b) ∧ (id, b) ∈ s.boxes := by
  unfold Core.where_
  rw [← List.head?_filter]
  cases h : s.boxes.filter (fun x => pred x.2) with
  | nil => exact .inl ⟨rfl, rfl⟩
  | cons p r => exact .inr ⟨p.1, p.2, r.map (·.1), rfl, rfl, (List.mem_filter.1 (by rw [h]; exact List.mem_cons_self)).1⟩
def stAt (k : Nat) : Int := ([1, 0, 2] : List Int).getD k 0
def Core.spareK (s : Core) (f : Int) (k : Nat) : Option Box := s.spareOf f (stAt k)
theorem spare_at {s : Core} {f : Int} {k : Nat} {b : Box} (hk : k < 3) (hn : ∀ j, j < k → s.spareK f j = none) (h : s.spareK f k = some b) : s.spare f = some b := by
  have h0 : k ≠ 0 → s.spareOf f 1 = none := fun h => hn 0 (by omega)
  have h1 : k = 2 → s.spareOf f 0 = none := fun h => hn 1 (by omega)
  unfold Core.spare
  obtain rfl | rfl | rfl : k = 0 ∨ k = 1 ∨ k = 2 := by omega
  · rw [show s.spareOf f 1 = some b from h]
  · rw [h0 (by omega)]
    simp only
    rw [show s.spareOf f 0 = some b from h]
  · rw [h0 (by omega), h1 rfl]
    exact h
theorem spare_no {s : Core} {f : Int} (hn : ∀ j, j < 3 → s.spareK f j = none) : s.spare f = none := by
  unfold Core.spare
  rw [show s.spareOf f 1 = none from hn 0 (by omega)]
  simp only
  rw [show s.spareOf f 0 = none from hn 1 (by omega)]
  exact hn 2 (by omega)
structure SpareRel (w : World) (s : Core) (p : Nat) (f : Int) (B0 B1 B2 k : Nat) (wr : World) : Prop where
  none : ∀ j, j < k → s.spareK f j = Option.none
  below : Below w.heap.size w wr
  b0 : Blk wr B0 24 #[vptr p]
  b1 : Blk wr B1 3 #[.int .i64 f]
  b2 : Blk wr B2 70 #[.int .i64 1, .int .i64 0, .int .i64 2]
theorem SpareRel.next {w wr w' : World} {s : Core} {p : Nat} {f : Int} {B0 B1 B2 k : Nat} (h : SpareRel w s p f B0 B1 B2 k wr) (hb : Below wr.heap.size wr w') (hk : s.spareK f k = Option.none) : SpareRel w s p f B0 B1 B2 (k + 1) w' :=
  ⟨fun j hj => by
    by_cases e : j = k
    · rw [e]; exact hk
    · exact h.none j (by omega), below_step h.below hb, h.b0.below hb h.b0.lt, h.b1.below hb h.b1.lt, h.b2.below hb h.b2.lt⟩
set_option maxRecDepth 100000 in
set_option maxHeartbeats 8000000 in
theorem spare_any {w : World} {g : G} {s : Core} {p : Nat} {f : Int} (st : St w g s) (hp : g.ad .core = p) : Calls Tryz.prog 90 #[vptr p, .int .i64 f] w (FreeOut (bptr g (s.spare f)) w) := by
  obtain ⟨bm, hbm⟩ : ∃ t, g.ad .boxes = t := ⟨_, rfl⟩
  have hs := st.sorted.2.2.2.1
  have gd := st.good
  have HW : Hid (∀ wr k B0 B1 B2, SpareRel w s p f B0 B1 B2 k wr → Calls Tryz.prog 53 #[vptr p, .func (.func 123) #[] #[vptr B1, vptr wr.heap.size, vptr B0]] (wr.alloc (.cells #[.int .i64 (stAt k)] 70)) (NumsOut (s.where_ fun b => b.fn == f && !b.pinned && b.st == stAt k && s.hosts.up b.host) (wr.alloc (.cells #[.int .i64 (stAt k)] 70)))) := Lib.hid fun wr k B0 B1 B2 hr => by
    have hb2 := hr.below.alloc hr.below.size (.cells #[.int .i64 (stAt k)] 70)
    have st2 := st.below hb2
    obtain ⟨ov, m⟩ := st2.mem
    have hw := where_any 123 #[vptr B1, vptr wr.heap.size, vptr B0] (fun b => b.fn == f && !b.pinned && b.st == stAt k && s.hosts.up b.host) _ g s st2 (fun W pb b hW hbx =>
      p_spare pb B1 wr.heap.size B0 (g.ad .hosts) p b f (stAt k) s.hosts W hbx ((old_cell hW (hr.b1.alloc _)).cell 0) ((old_cell hW (Blk.new wr 70 #[.int .i64 (stAt k)])).cell 0) ((old_cell hW (hr.b0.alloc _)).cell 0) (by subst hp; exact (old_cell hW m.core.blk).cell 5) (old_cell hW m.hosts.blk) m.hok) (enters_of Tryz.func123 (by kernel_rfl) rfl)
    rw [hp] at hw
    exact hw
  have HL : Hid (∀ wr, Below w.heap.size w wr → wr.cell? ⟨p, 7, none⟩ = some (.map (some bm)) ∧ ∀ id b, FM.get s.boxes id = some b → (Instr.lookup 52 (.map (some bm)) (.int .i64 id) false).run Tryz.prog wr = .ok (vptr (g.ad (.box id))) wr) := Lib.hid fun wr hb => by
    have st2 := st.below hb
    refine ⟨st2.boxes hp hbm, fun id b hg => ?_⟩
    obtain ⟨ov, m⟩ := st2.mem
    have := boxes_look m.boxes (W := wr) (w64_box gd hg).1 rfl
    rw [hg, hbm] at this
    exact this
  have HG : Hid (∀ id b, (id, b) ∈ s.boxes → FM.get s.boxes id = some b ∧ b.id = id) := Lib.hid fun id b hm => by
    have hg := FM.get_of_mem hs hm
    exact ⟨hg, (gd.boxes _ _ hg).1⟩
  clear st hs gd hp hbm
  go_enter Tryz.func90, Tryz.ntmps90
  go_wp2
  have hst : SpareRel w s p f w.heap.size (w.heap.size + 1) (w.heap.size + 2) 0 (((w.alloc (.cells #[vptr p] 24)).alloc (.cells #[.int .i64 f] 3)).alloc (.cells #[.int .i64 1, .int .i64 0, .int .i64 2] 70)) := by
    have h1 := Blk.new (w.alloc (.cells #[vptr p] 24)) 3 #[.int .i64 f]
    have h2 := Blk.new ((w.alloc (.cells #[vptr p] 24)).alloc (.cells #[.int .i64 f] 3)) 70 #[.int .i64 1, .int .i64 0, .int .i64 2]
    simp only [World.size_alloc] at h1 h2
    exact ⟨fun j hj => absurd hj (by omega), (((Below.refl w.heap.size w).alloc (Nat.le_refl _) _).alloc (by simp) _).alloc (by simp; omega) _, ((Blk.new w _ _).alloc _).alloc _, h1.alloc _, h2⟩
  have HS := Lib.hid hst
  clear hst
  go_loopw [10] (fun i wr => ∃ k : Nat, k ≤ 3 ∧ i = .int .i64 k ∧ SpareRel w s p f w.heap.size (w.heap.size + 1) (w.heap.size + 2) k wr) (fun i _ => 3 - (intOf i).toNat)
  case atStart => exact ⟨0, by omega, rfl, HS.out⟩
  case round =>
    obtain ⟨k, hk, rfl, hr⟩ := hrel
    have HR := Lib.hid hr
    by_cases hlt : k < 3
    · have ck : wr.cell? ⟨w.heap.size + 2, k, none⟩ = some (.int .i64 (stAt k)) := by
        rw [hr.b2.cell]
        obtain rfl | rfl | rfl : k = 0 ∨ k = 1 ∨ k = 2 := by omega
        all_goals rfl
      have hw := HW.out wr k _ _ _ hr
      have c0 : (wr.alloc (.cells #[.int .i64 (stAt k)] 70)).cell? ⟨w.heap.size, 0, none⟩ = some (vptr p) := (hr.b0.alloc _).cell 0
      have HBW : Hid (Below w.heap.size w (wr.alloc (.cells #[.int .i64 (stAt k)] 70))) := Lib.hid (hr.below.alloc hr.below.size _)
      have HW1 := Lib.hid hw
      have HB0 : Hid (Blk (wr.alloc (.cells #[.int .i64 (stAt k)] 70)) w.heap.size 24 #[vptr p]) := Lib.hid (hr.b0.alloc _)
      have HBA : Hid (∀ w5, Below (wr.alloc (.cells #[.int .i64 (stAt k)] 70)).heap.size (wr.alloc (.cells #[.int .i64 (stAt k)] 70)) w5 → s.spareK f k = none → SpareRel w s p f w.heap.size (w.heap.size + 1) (w.heap.size + 2) (k + 1) w5) := Lib.hid fun w5 hb hn => hr.next (below_step ((Below.refl _ _).alloc (Nat.le_refl _) _) hb) hn
      obtain ⟨stk, hstk⟩ : ∃ x, x = stAt k := ⟨_, rfl⟩
      rw [← hstk] at ck HW1 c0 HBW HB0 HBA
      have HK : Hid (s.spareK f k = s.spareOf f stk) := Lib.hid (by rw [hstk]; rfl)
      have hz : (k : Int) < 3 := by omega
      clear hr hw hstk
      go_upto_region 4 with (fail)
      obtain ⟨xs, hxs⟩ : ∃ xs, xs = s.where_ (fun b => b.fn == f && !b.pinned && b.st == stk && s.hosts.up b.host) := ⟨_, rfl⟩
      rw [← hxs] at HW1
      have hcase : (xs = [] ∧ s.spareK f k = none) ∨ ∃ id b r, xs = id :: r ∧ s.spareK f k = some b ∧ FM.get s.boxes id = some b ∧ b.id = id := by
        rw [HK.out, hxs]
        rcases where_head s (fun b => b.fn == f && !b.pinned && b.st == stk && s.hosts.up b.host) with ⟨h1, h2⟩ | ⟨id, b, r, h1, h2, h3⟩
        · refine .inl ⟨h1, ?_⟩
          unfold Core.spareOf
          rw [h2]; rfl
        · obtain ⟨h4, h5⟩ := HG.out id b h3
          refine .inr ⟨id, b, r, h1, ?_, h4, h5⟩
          unfold Core.spareOf
          rw [h2]; rfl
      have HCASE := Lib.hid hcase
      clear hcase hxs
      generalize wr.alloc (.cells #[.int .i64 stk] 70) = wa at c0 HW1 HBW HB0 HBA ⊢
      generalize wr.heap.size = bs at HW1 ⊢
      go_upto_region 5 with (go_at_call 53; refine HW1.out.mono ?_; rintro e w5 ⟨v, rfl, hv, hb⟩; have HV := Lib.hid hv; have HB5 := Lib.hid hb; clear hv hb)
      rcases HCASE.out with ⟨hx, hno⟩ | ⟨id, b, r, hx, hyes, hg, hid⟩
      · obtain ⟨va, vcap, hv2⟩ := HV.out.slice
        rw [hx] at hv2
        subst hv2
        have HNO := Lib.hid hno
        have hz0 : ¬ (0 : Int) < ((([] : List Int).length : Nat) : Int) := by simp
        clear hx hno hz0 c0
        go_wp2
        go_roundw
        case rel => exact ⟨k + 1, by omega, by go_num, HBA.out w5 HB5.out HNO.out⟩
        case measure => simp [intOf]; omega
      · rcases HV.out with ⟨hv0, hx0⟩ | ⟨q, cap, cs, hv2, h1, h2, h3, h4, h5⟩
        · rw [hx] at hx0; cases hx0
        · subst hv2
          have hq0 : w5.cell? ⟨q, 0, none⟩ = some (.int .i64 id) := by
            have := (h4.cell 0).trans (h5 0 (by rw [hx]; simp))
            rw [hx] at this
            exact this
          have c0' : w5.cell? ⟨w.heap.size, 0, none⟩ = some (vptr p) := (HB0.out.below HB5.out HB0.out.lt).cell 0
          have hbw := below_step HBW.out HB5.out
          obtain ⟨c7, hl⟩ := HL.out w5 hbw
          have hlk := hl id b hg
          have hln : ∀ n, (Instr.lookup 52 (.map (some bm)) (.int .i64 id) false).run Tryz.prog (w5.drewN n) = .ok (vptr (g.ad (.box id))) (w5.drewN n) := fun n => (HL.out (w5.drewN n) (below_drewN hbw n)).2 id b hg
          obtain ⟨n, hn⟩ : ∃ n, n = xs.length := ⟨_, rfl⟩
          have hn0 : 0 < n := by rw [hn, hx]; simp
          have hn1 : (0 : Int) < n := by omega
          rw [← hn] at h2 ⊢
          have HS5 := Lib.hid (spare_at hlt HR.out.none hyes)
          have HBW5 := Lib.hid hbw
          have HID := Lib.hid hid
          have hcap2 : (n : Int) ≤ 9223372036854775807 := by omega
          clear hl hlk hbw h4 h5 hx hyes hg hid hn c0
          obtain ⟨bq, hbq⟩ : ∃ bq, bq = g.ad (.box id) := ⟨_, rfl⟩
          rw [← hbq] at hln
          have HBQ := Lib.hid hbq
          clear hbq
          go_upto_region 6 with (fail)
          go_quiet (fail)
          go_wp2
          go_ret
          exact ⟨by rw [HS5.out]; show _ = Ending.returned (vptr (g.ad (.box b.id))); rw [HID.out, ← HBQ.out]; rfl, below_drewN HBW5.out _⟩
    · have hk3 : k = 3 := by omega
      subst hk3
      have HNO := Lib.hid (spare_no hr.none)
      clear hr
      go_wp2
      go_ret
      exact ⟨by rw [HNO.out]; rfl, HR.out.below⟩
end Go.Proofs.YtjmdgicdpggljaaGreat.GH
