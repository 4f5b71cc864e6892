/- Proved: what core's begin leaves. -/
import Derived.Test.YtjmdgicdpggljaaGreatM27
import Derived.Lib.MinMax
import Derived.Deep.LoopGhost
import Derived.RangeFuncNested
import Derived.RangeFuncBound
import Derived.RangeFuncCalls
import Derived.RangeFuncLeaves
import Derived.Shelf.Abstract
import Derived.Shelf.RegionOpen
import Derived.OwnWalkIn
import Derived.TacticsInMore
import Derived.LoopNIn
import Derived.LoopIn
set_option linter.all false
namespace Go.Proofs.YtjmdgicdpggljaaGreat.GH
open Go.RowKit Go.Proofs.YtjmdgicdpggljaaGreat.Histo Go.Proofs.YtjmdgicdpggljaaGreat.Event Go.Proofs.YtjmdgicdpggljaaGreat.Ring
set_option linter.unusedVariables false
open Go.Proofs.YtjmdgicdpggljaaGreat.MapG (Codec Mk)
open Go.Proofs.YtjmdgicdpggljaaGreat.MapI (AL At Rng W64)

/-- Begin behind the idle time's counting. -/
def Core.begun (s : Core) (f : Int) (y : Fn) (b : Box) : Core :=
  (({ s with fns := FM.put s.fns f { y with often := min (y.often + 1) 1000 }, timers := s.timers.drop ⟨1, f⟩, quota := s.quota.begin f } : Core).take b).setBox (b.call s.now)
structure BTail (w : World) (g : G) (s : Core) (p q fq tm qm : Nat) (f : Int) (y : Fn) (b : Box) : Prop where
  often : w.cell? ⟨fq, 4, none⟩ = some (.int .i64 y.often)
  frozen : w.frozen? ⟨fq, 4, none⟩ = false
  next : ∀ w4, w4 = w.setCell ⟨fq, 4, none⟩ (.int .i64 (min (y.often + 1) 1000)) → w4.cell? ⟨p, 9, none⟩ = some (vptr tm) ∧
    Calls Tryz.prog 104 #[vptr tm, .agg #[.int .i64 1, .int .i64 f]] w4 fun e w5 => (∃ b, e = .returned b) ∧ w5.cell? ⟨p, 2, none⟩ = some (vptr qm) ∧
      Calls Tryz.prog 105 #[vptr qm, .int .i64 f] w5 fun e w6 => (∃ b, e = .returned b) ∧
        Calls Tryz.prog 91 #[vptr p, vptr q] w6 fun e w7 => e = .returned (.tuple #[]) ∧ w7.cell? ⟨p, 0, none⟩ = some (.int .i64 s.now) ∧
          Calls Tryz.prog 106 #[vptr q, .int .i64 s.now] w7 fun e w8 => (∃ b, e = .returned b) ∧ ∃ g', To w g s w8 g' (s.begun f y b)
theorem btail_any {w : World} {g : G} {s : Core} {p q fq tm qm : Nat} {f : Int} {y : Fn} {b : Box} (st : St w g s) (hp : g.ad .core = p) (hb : FM.get s.boxes b.id = some b) (hq : g.ad (.box b.id) = q) (hy : FM.get s.fns f = some y) (hfq : g.ad (.fn f) = fq) (htm : g.ad .timers = tm) (hqm : g.ad .quota = qm) : BTail w g s p q fq tm qm f y b := by
  have hf := st.fnBlk hy hfq
  obtain ⟨f0, f1, gy⟩ := st.good.fns _ _ hy
  have hkb := box_keep st.good hb
  refine ⟨hf.cell 4, hf.frozen 4, fun w4 hw4 => ?_⟩
  have h4 := To.fnField st hy hfq 4 (.int .i64 (min (y.often + 1) 1000)) (x' := { y with often := min (y.often + 1) 1000 }) (fun _ _ => rfl) rfl rfl ⟨gy.acc, gy.mem, gy.cost, gy.keep, by have := gy.often; show 0 ≤ min (y.often + 1) 1000 ∧ min (y.often + 1) 1000 ≤ 1000; omega, gy.last, gy.til, gy.hist⟩
  rw [← hw4] at h4
  have s4 := h4.use
  refine ⟨s4.timers hp htm, ?_⟩
  have hd := tdrop_use (k := ⟨1, f⟩) s4 htm ⟨MapI.w64 (by show (-9223372036854775808 : Int) ≤ 1; decide) (by show (1 : Int) ≤ 9223372036854775807; decide), MapI.w64 (by show (-9223372036854775808 : Int) ≤ f; omega) (by show f ≤ 9223372036854775807; omega)⟩
  refine hd.mono ?_
  rintro e w5 ⟨he5, g5, h5⟩
  have t5 := h4.all.trans h5
  have e5 := fun t (ht : Head t) => t5.head ht
  refine ⟨he5, h5.st.quota ((e5 .core trivial).trans hp) ((e5 .quota trivial).trans hqm), ?_⟩
  refine (qbegin_use h5.st ((e5 .quota trivial).trans hqm) f).mono ?_
  rintro e w6 ⟨he6, h6⟩
  have t6 := t5.trans h6.all
  refine ⟨he6, ?_⟩
  refine (take_any (b := b) h6.use ((e5 .core trivial).trans hp) hb ((t6.ad _ hkb).trans hq)).mono ?_
  rintro e w7 ⟨he7, g7, h7⟩
  have t7 := t6.trans h7
  refine ⟨he7, h7.st.now ((t7.head (t := .core) trivial).trans hp), ?_⟩
  refine (bcall_use (b := b) h7.st hb ((t7.ad _ hkb).trans hq)).mono ?_
  rintro e w8 ⟨he8, h8⟩
  exact ⟨he8, g7, t7.trans h8.all⟩
theorem begin_yes {s s' : Core} {f : Int} {b : Box} {x : Fn} (hx : FM.get s.fns f = some x) (hs : s.begin f b = some s') (hc : s.quota.busyOf f = 0 ∧ 0 ≤ x.last) : s' = ({ s with fns := FM.put s.fns f { x with hist := x.hist.add (s.now - x.last), ring := x.ring ++ [s.now - x.last] } } : Core).begun f { x with hist := x.hist.add (s.now - x.last), ring := x.ring ++ [s.now - x.last] } b := by
  unfold Core.begin at hs
  rw [hx] at hs
  simp only [if_pos hc] at hs
  cases hs
  unfold Core.begun
  simp only [put_put]
theorem begin_no {s s' : Core} {f : Int} {b : Box} {x : Fn} (hx : FM.get s.fns f = some x) (hs : s.begin f b = some s') (hc : ¬ (s.quota.busyOf f = 0 ∧ 0 ≤ x.last)) : s' = s.begun f x b := by
  unfold Core.begin at hs
  rw [hx] at hs
  simp only [if_neg hc] at hs
  cases hs
  rfl
set_option maxRecDepth 100000 in
set_option maxHeartbeats 8000000 in
theorem begin_any {w : World} {g : G} {s s' : Core} {p q : Nat} {f : Int} {b : Box} (st : St w g s) (hp : g.ad .core = p) (hb : FM.get s.boxes b.id = some b) (hq : g.ad (.box b.id) = q) (hs : s.begin f b = some s') :
    Calls Tryz.prog 62 #[vptr p, .int .i64 f, vptr q] w (Post (.tuple #[]) w g s s') := by
  cases hx : FM.get s.fns f with
  | none => unfold Core.begin at hs; rw [hx] at hs; cases hs
  | some x =>
    have gd := st.good
    obtain ⟨f0, f1, gx⟩ := gd.fns _ _ hx
    have wf : W64 f := w64_fn ⟨f0, f1⟩
    have hfk : Kept s (.fn f) := by show (FM.get s.fns f).isSome = true; rw [hx]; rfl
    have hkb := box_keep gd hb
    obtain ⟨fm, hfm⟩ : ∃ t, g.ad .fns = t := ⟨_, rfl⟩
    obtain ⟨tm, htm⟩ : ∃ t, g.ad .timers = t := ⟨_, rfl⟩
    obtain ⟨qm, hqm⟩ : ∃ t, g.ad .quota = t := ⟨_, rfl⟩
    obtain ⟨fq, hfq⟩ : ∃ t, g.ad (.fn f) = t := ⟨_, rfl⟩
    obtain ⟨hq2, hhq⟩ : ∃ q, g.ad (.hist f) = q := ⟨_, rfl⟩
    obtain ⟨rq, hrq⟩ : ∃ q, g.ad (.ring f) = q := ⟨_, rfl⟩
    have c4 := st.fns hp hfm
    have c2 := st.quota hp hqm
    have c0 := st.now hp
    have hlk : (Instr.lookup 48 (.map (some fm)) (.int .i64 f) false).run Tryz.prog w = .ok (vptr fq) w := by
      have := fns_look st wf hfm
      rw [hx] at this
      simp only [Option.map_some, Option.getD_some, hfq] at this
      exact this
    have fb := st.fnBlk hx hfq
    rw [hhq, hrq] at fb
    have k5 : w.cell? ⟨fq, 5, none⟩ = some (.int .i64 x.last) := fb.cell 5
    have HQ := Lib.hid (qbusy_use st hqm f)
    have hn0 := gd.now
    have hl0 := gx.last
    have ho0 := gx.often
    by_cases hc : s.quota.busyOf f = 0 ∧ 0 ≤ x.last
    · have e := begin_yes hx hs hc
      subst e
      obtain ⟨S1, hS1⟩ : ∃ S1 : Core, S1 = { s with fns := FM.put s.fns f { x with hist := x.hist.add (s.now - x.last) } } := ⟨_, rfl⟩
      obtain ⟨y, hy⟩ : ∃ y : Fn, y = { x with hist := x.hist.add (s.now - x.last), ring := x.ring ++ [s.now - x.last] } := ⟨_, rfl⟩
      obtain ⟨S2, hS2⟩ : ∃ S2 : Core, S2 = { s with fns := FM.put s.fns f y } := ⟨_, rfl⟩
      rw [← hy, ← hS2]
      have HA : Hid (∀ W, Below w.heap.size w W → (W.cell? ⟨fq, 7, none⟩ = some (vptr hq2) ∧ W.cell? ⟨fq, 5, none⟩ = some (.int .i64 x.last) ∧ W.cell? ⟨p, 0, none⟩ = some (.int .i64 s.now)) ∧ ∀ n, Calls Tryz.prog 102 #[vptr hq2, .int .i64 (s.now - x.last)] (W.drewN n) fun e w2 => e = .returned (.tuple #[]) ∧ w2.cell? ⟨fq, 8, none⟩ = some (vptr rq) ∧ w2.cell? ⟨fq, 5, none⟩ = some (.int .i64 x.last) ∧ w2.cell? ⟨p, 0, none⟩ = some (.int .i64 s.now) ∧
          ∀ m, Calls Tryz.prog 103 #[vptr rq, .int .i64 (s.now - x.last)] (w2.drewN m) fun e w3 => e = .returned (.tuple #[]) ∧ To w g s w3 g S2 ∧ BTail w3 g S2 p q fq tm qm f y b) := Lib.hid fun W hbw => by
        have stw := st.below hbw
        have fbw := stw.fnBlk hx hfq
        rw [hhq, hrq] at fbw
        refine ⟨⟨fbw.cell 7, fbw.cell 5, stw.now hp⟩, fun n => ?_⟩
        refine (hadd_fn (stw.drewN n) hx hhq (s.now - x.last)).mono ?_
        rintro e w2 ⟨he, h2⟩
        rw [← hS1] at h2
        have hx1 : FM.get S1.fns f = some { x with hist := x.hist.add (s.now - x.last) } := by rw [hS1]; show FM.get (FM.put s.fns f _) f = _; rw [FM.get_put, if_pos rfl]
        have fb1 := h2.use.fnBlk hx1 hfq
        rw [hhq, hrq] at fb1
        have n0 : S1.now = s.now := by rw [hS1]
        refine ⟨he, fb1.cell 8, fb1.cell 5, by have := h2.use.now hp; rw [n0] at this; exact this, fun m => ?_⟩
        refine (rpush_fn (h2.use.drewN m) hx1 hrq (s.now - x.last)).mono ?_
        rintro e w3 ⟨he3, h3⟩
        have e2 : ({ S1 with fns := FM.put S1.fns f { ({ x with hist := x.hist.add (s.now - x.last) } : Fn) with ring := x.ring ++ [s.now - x.last] } } : Core) = S2 := by
          rw [hS2, hS1, hy]
          simp only [put_put]
        rw [e2] at h3
        refine ⟨he3, (((To.below st hbw).drewN n).trans (h2.all.drewN m)).trans h3.all, btail_any h3.use hp (by rw [hS2]; exact hb) hq (by rw [hS2]; show FM.get (FM.put s.fns f _) f = _; rw [FM.get_put, if_pos rfl]) hfq htm hqm⟩
      obtain ⟨bz, hbz⟩ : ∃ x, x = s.quota.busyOf f := ⟨_, rfl⟩
      obtain ⟨la, hla⟩ : ∃ y, y = x.last := ⟨_, rfl⟩
      obtain ⟨now, hnow⟩ : ∃ y, y = s.now := ⟨_, rfl⟩
      rw [← hbz] at HQ hc
      rw [← hla] at k5 hc hl0 HA
      rw [← hnow] at HA hn0 c0
      have d1 : (bz == 0) = true := by simpa using hc.1
      have d2 : decide (0 ≤ la) = true := by simpa using hc.2
      have hla0 := hc.2
      have hla1 := hl0.2
      have hn1 := hn0.1
      have hn2 := hn0.2
      obtain ⟨ow, how⟩ : ∃ o, o = y.often := ⟨_, rfl⟩
      have o0 : 0 ≤ ow := by rw [how, hy]; exact ho0.1
      have o1 : ow ≤ 1000 := by rw [how, hy]; exact ho0.2
      have HOW := Lib.hid how
      clear hs hc hbz hla hnow st gd f0 f1 gx wf hfk hkb hfm htm hqm hfq hhq hrq hp hb hq hx fb hS1 hS2 hy hl0 hn0 ho0 how
      go_enter Tryz.func62, Tryz.ntmps62
      go_upto_region 2 with (go_at_call 101; refine HQ.out.mono ?_; rintro e w1 ⟨rfl, n1, rfl⟩)
      obtain ⟨⟨a7, a5, a0⟩, hadd⟩ := HA.out _ (Below.drewN' n1)
      have HADD := Lib.hid hadd
      clear hadd c4 c2 c0 hlk k5
      generalize w.drewN n1 = W at a7 a5 a0 HADD ⊢
      go_still_tail 13, (by kernel_rfl)
      change wpList _ _ _ _ _ W.drew
      go_upto_region 3 with (go_at_call 102; refine (HADD.out 1).mono ?_; rintro e w2 ⟨rfl, b8, b5, b0, hk⟩; have HR := Lib.hid hk; clear hk)
      clear a7 a5 a0
      go_still_tail 13, (by kernel_rfl)
      change wpList _ _ _ _ _ w2.drew
      go_upto_region 4 with (go_at_call 103; refine (HR.out 1).mono ?_; rintro e w3 ⟨rfl, h3, ht⟩; have H3 := Lib.hid h3; have HT := Lib.hid ht; clear h3 ht)
      clear b8 b5 b0
      obtain ⟨t1, t2, t3⟩ := HT.out
      rw [← HOW.out] at t1 t3
      have HT3 := Lib.hid t3
      clear t3
      go_upto_region 5 with (fail)
      obtain ⟨c9, hk⟩ := HT3.out _ rfl
      have HK := Lib.hid hk
      clear hk t1 t2
      generalize w3.setCell ⟨fq, 4, none⟩ (.int .i64 (min (ow + 1) 1000)) = w4 at c9 HK ⊢
      go_wp2_with (first
        | (go_at_call 104; refine HK.out.mono ?_; rintro e w5 ⟨⟨v5, rfl⟩, c2, hk⟩; have HK5 := Lib.hid hk; clear hk)
        | (go_at_call 105; refine HK5.out.mono ?_; rintro e w6 ⟨⟨v6, rfl⟩, hk⟩; have HK6 := Lib.hid hk; clear hk)
        | (go_at_call 91; refine HK6.out.mono ?_; rintro e w7 ⟨rfl, c0, hk⟩; have HK7 := Lib.hid hk; clear hk)
        | (go_at_call 106; refine HK7.out.mono ?_; rintro e w8 ⟨⟨v8, rfl⟩, g8, h8⟩; have H8 := Lib.hid h8; clear h8))
      go_end0
      exact ⟨rfl, g8, H3.out.trans H8.out⟩
    · have e := begin_no hx hs hc
      subst e
      have HT : Hid (∀ n, BTail (w.drewN n) g s p q fq tm qm f x b) := Lib.hid fun n => btail_any (st.drewN n) hp hb hq hx hfq htm hqm
      have HST := Lib.hid st
      obtain ⟨S', hS'⟩ : ∃ S', S' = s.begun f x b := ⟨_, rfl⟩
      obtain ⟨bz, hbz⟩ : ∃ x, x = s.quota.busyOf f := ⟨_, rfl⟩
      obtain ⟨la, hla⟩ : ∃ y, y = x.last := ⟨_, rfl⟩
      obtain ⟨now, hnow⟩ : ∃ y, y = s.now := ⟨_, rfl⟩
      rw [← hbz] at HQ hc
      rw [← hla] at k5 hc hl0
      have hd : (bz == 0) = false ∨ ((bz == 0) = true ∧ decide (0 ≤ la) = false) := by
        by_cases h : bz = 0
        · exact .inr ⟨by simpa using h, by simpa using fun h2 => hc ⟨h, h2⟩⟩
        · exact .inl (by simpa using h)
      have HS := Lib.hid hS'
      clear hs hc hbz hla hnow st gd f0 f1 gx wf hfk hkb hfm htm hqm hfq hhq hrq hp hb hq hx fb hS'
      rcases hd with d1 | ⟨d1, d2⟩
      all_goals
        go_enter Tryz.func62, Tryz.ntmps62
        go_upto_region 4 with (go_at_call 101; refine HQ.out.mono ?_; rintro e w1 ⟨rfl, n1, rfl⟩)
        obtain ⟨t1, t2, t3⟩ := HT.out n1
        have HT3 := Lib.hid t3
        clear t3
        have HWB := Lib.hid (To.below HST.out (Below.drewN' n1))
        generalize w.drewN n1 = W at t1 t2 HT3 HWB ⊢
        obtain ⟨ow, how⟩ : ∃ o, o = x.often := ⟨_, rfl⟩
        rw [← how] at t1 HT3 ho0
        obtain ⟨o0, o1⟩ := ho0
        clear how c4 c2 c0 hlk k5
        go_upto_region 5 with (fail)
        obtain ⟨c9, hk⟩ := HT3.out _ rfl
        have HK := Lib.hid hk
        clear hk t1 t2
        generalize W.setCell ⟨fq, 4, none⟩ (.int .i64 (min (ow + 1) 1000)) = w4 at c9 HK ⊢
        go_wp2_with (first
          | (go_at_call 104; refine HK.out.mono ?_; rintro e w5 ⟨⟨v5, rfl⟩, c2, hk⟩; have HK5 := Lib.hid hk; clear hk)
          | (go_at_call 105; refine HK5.out.mono ?_; rintro e w6 ⟨⟨v6, rfl⟩, hk⟩; have HK6 := Lib.hid hk; clear hk)
          | (go_at_call 91; refine HK6.out.mono ?_; rintro e w7 ⟨rfl, c0, hk⟩; have HK7 := Lib.hid hk; clear hk)
          | (go_at_call 106; refine HK7.out.mono ?_; rintro e w8 ⟨⟨v8, rfl⟩, g8, h8⟩; have H8 := Lib.hid h8; clear h8))
        go_end0
        exact ⟨rfl, g8, HWB.out.trans H8.out⟩
end Go.Proofs.YtjmdgicdpggljaaGreat.GH

/- Proved: what core's room answers and leaves. -/
namespace Go.Proofs.YtjmdgicdpggljaaGreat.GH
open Go.RowKit Go.Proofs.YtjmdgicdpggljaaGreat.Histo Go.Proofs.YtjmdgicdpggljaaGreat.Event Go.Proofs.YtjmdgicdpggljaaGreat.Ring
set_option linter.unusedVariables false
open Go.Proofs.YtjmdgicdpggljaaGreat.MapG (Codec Mk)
open Go.Proofs.YtjmdgicdpggljaaGreat.MapI (AL At Rng W64)

theorem cevict_use {w : World} {g : G} {s : Core} {h : Int} {c : Cache} {q : Nat} (st : St w g s) (hc : FM.get s.caches h = some (some c)) (hq : g.ad (.cache h) = q) (hx : 0 < c.items.length) :
    Calls Tryz.prog 110 #[vptr q] w fun e w' => e = .returned (.tuple #[.int .i64 c.least, .bool true]) ∧ ∃ g', To w g s w' g' (s.setCache h c.evict) := by
  subst hq
  obtain ⟨ov, m⟩ := st.mem
  obtain ⟨v, hat, hv⟩ := (m.caches.each h c hc).at_
  refine (cevict_some _ _ _ v c w hat hx).mono ?_
  rintro e w' ⟨rfl, ht⟩
  obtain ⟨g', h1, _⟩ := To.cache st hc hv ht
  have e1 : c.least = hkey c.items 0 := by unfold Cache.least; rw [if_neg (fun e => by rw [e] at hx; simp at hx)]
  rw [e1]
  exact ⟨rfl, g', h1⟩
theorem evicts_next {n : Nat} {s t : Core} {h mem : Int} (he : Core.evicts (n + 1) s h mem = some t) (hl : s.hosts.free h < mem) : ∃ b t1, FM.get s.boxes (s.cache h).least = some b ∧ (s.setCache h (s.cache h).evict).kill b = some t1 ∧ Core.evicts n t1 h mem = some t := by
  rw [Core.evicts, if_pos hl] at he
  split at he
  · cases he
  · next b hb =>
    split at he
    · cases he
    · next t1 ht => exact ⟨b, t1, hb, ht, he⟩
theorem evicts_end {n : Nat} {s t : Core} {h mem : Int} (he : Core.evicts (n + 1) s h mem = some t) (hl : ¬ s.hosts.free h < mem) : t = s := by
  rw [Core.evicts, if_neg hl] at he
  cases he; rfl
/-- One round of the loop that makes room. -/
theorem evict_round {w : World} {g : G} {s t1 : Core} {p : Nat} {h : Int} {b : Box} (st : St w g s) (hp : g.ad .core = p) (hh : 0 ≤ h ∧ h < 32) (hb : FM.get s.boxes (s.cache h).least = some b) (hk : (s.setCache h (s.cache h).evict).kill b = some t1) :
    Calls Tryz.prog 109 #[vptr p, .int .i64 h] w fun e w1 => ∃ q, e = .returned (vptr q) ∧ Calls Tryz.prog 110 #[vptr q] w1 fun e w2 => e = .returned (.tuple #[.int .i64 b.id, .bool true]) ∧
      ∃ bm bq, w2.cell? ⟨p, 7, none⟩ = some (.map (some bm)) ∧ (Instr.lookup 52 (.map (some bm)) (.int .i64 b.id) false).run Tryz.prog w2 = .ok (vptr bq) w2 ∧
        Calls Tryz.prog 42 #[vptr p, vptr bq] w2 fun e w3 => e = .returned (.tuple #[]) ∧ ∃ g', To w g s w3 g' t1 := by
  have hbid := (st.good.boxes _ _ hb).1
  have hne : 0 < (s.cache h).items.length := by
    rcases Nat.eq_zero_or_pos (s.cache h).items.length with h0 | h0
    · exfalso
      have : (s.cache h).least = 0 := by unfold Cache.least; rw [if_pos (List.length_eq_zero_iff.1 h0)]
      have h1 := (st.good.boxes _ _ hb).2.1
      omega
    · exact h0
  refine (ccache_any st hp hh).mono ?_
  rintro e w1 ⟨g1, rfl, h1, _⟩
  refine ⟨_, rfl, ?_⟩
  have hc1 : FM.get (s.setCache h (s.cache h)).caches h = some (some (s.cache h)) := by show FM.get (FM.put s.caches h _) h = _; rw [FM.get_put, if_pos rfl]
  refine (cevict_use h1.st hc1 rfl hne).mono ?_
  rintro e w2 ⟨rfl, g2, h2⟩
  rw [setCache_two] at h2
  have t2 := h1.trans h2
  have e2 := (t2.head (t := .core) trivial).trans hp
  have hb2 : FM.get (s.setCache h (s.cache h).evict).boxes b.id = some b := by rw [hbid]; exact hb
  refine ⟨by rw [hbid], g2.ad .boxes, g2.ad (.box b.id), t2.st.boxes e2 rfl, ?_, ?_⟩
  · obtain ⟨ov, m⟩ := t2.st.mem
    have := boxes_look m.boxes (W := w2) (w64_box t2.st.good hb2).1 rfl
    rw [hb2] at this
    exact this
  · refine (kill_use t2.st e2 hb2 rfl hk).mono ?_
    rintro e w3 ⟨he, g3, h3⟩
    exact ⟨he, g3, t2.trans h3⟩
/-- The memory of the first so many of a list. -/
def Core.idleL (s : Core) (h : Int) : List (Int × Box) := s.boxes.filter fun x => x.2.host == h && x.2.idle && !x.2.pinned
def Core.memTo (s : Core) (h : Int) (k : Nat) : Int := (((s.idleL h).take k).map fun x => x.2.mem).sum
theorem memTo_all (s : Core) (h : Int) : s.memTo h (s.idleL h).length = s.idles h := by unfold Core.memTo Core.idles; rw [List.take_length]; rfl
theorem memTo_bd {s : Core} (h : Int) (hb : ∀ x ∈ s.boxes, 0 ≤ x.2.mem ∧ x.2.mem ≤ 4096) (k : Nat) (hk : k ≤ (s.idleL h).length) : 0 ≤ s.memTo h k ∧ s.memTo h k ≤ 4096 * k := by
  induction k with
  | zero => exact ⟨Int.le_refl 0, Int.le_refl 0⟩
  | succ k ih =>
    have h1 := ih (by omega)
    have hm := hb _ (List.mem_filter.1 (List.getElem_mem (show k < (s.idleL h).length by omega))).1
    unfold Core.memTo at h1 ⊢
    rw [List.take_succ_eq_append_getElem (by omega), List.map_append, List.sum_append]
    simp only [List.map_cons, List.map_nil, List.sum_cons, List.sum_nil]
    omega
structure RoomRel (w : World) (g : G) (s : Core) (mem : Int) (s' : Core) (r : Int) (k : Nat) (wr : World) : Prop where
  below : Below w.heap.size w wr
  rest : Core.rooms (32 - k) s mem k = some (s', r)
def roomVal (r : Int) : Value := .tuple #[.int .i64 (max r 0), .bool (decide (0 ≤ r))]
theorem rooms_skip {s s' : Core} {mem r : Int} {k : Nat} (hk : k < 32) (h : Core.rooms (32 - k) s mem k = some (s', r)) (hc : s.hosts.up k = false ∨ s.hosts.free k + s.idles k < mem) : Core.rooms (32 - (k + 1)) s mem ((k + 1 : Nat) : Int) = some (s', r) := by
  obtain ⟨n, hn⟩ : ∃ n, 32 - k = n + 1 := ⟨31 - k, by omega⟩
  rw [hn, Core.rooms, if_pos hc] at h
  rw [show 32 - (k + 1) = n by omega]
  exact h
theorem rooms_here {s s' : Core} {mem r : Int} {k : Nat} (hk : k < 32) (h : Core.rooms (32 - k) s mem k = some (s', r)) (hc : ¬ (s.hosts.up k = false ∨ s.hosts.free k + s.idles k < mem)) : r = k ∧ Core.evicts (s.boxes.length + 1) s k mem = some s' := by
  obtain ⟨n, hn⟩ : ∃ n, 32 - k = n + 1 := ⟨31 - k, by omega⟩
  rw [hn, Core.rooms, if_neg hc] at h
  split at h
  · cases h
  · next t ht => cases h; exact ⟨rfl, ht⟩
set_option maxRecDepth 100000 in
set_option maxHeartbeats 8000000 in
theorem room_fresh {w : World} {g : G} {s s' : Core} {p : Nat} {mem r : Int} (hfr : ∀ k, w.heap.size ≤ k → g.own k = .none) (st : St w g s) (hp : g.ad .core = p) (hm : 0 ≤ mem ∧ mem ≤ 4096) (hs : s.room mem = some (s', r)) :
    Calls Tryz.prog 64 #[vptr p, .int .i64 mem] w (Post (roomVal r) w g s s') := by
  obtain ⟨hmq, hhm⟩ : ∃ t, g.ad .hosts = t := ⟨_, rfl⟩
  have c5 := st.hosts hp hhm
  have hfit := hfit_use st hhm mem
  unfold fitVal at hfit
  have HST := Lib.hid st
  unfold Core.room at hs
  obtain ⟨ft, hft⟩ : ∃ ft, ft = s.hosts.fit mem := ⟨_, rfl⟩
  rw [← hft] at hfit hs
  have HFIT := Lib.hid hfit
  by_cases h0 : 0 ≤ ft
  · rw [if_pos h0] at hs
    cases hs
    have d1 : decide (0 ≤ r) = true := by simpa using h0
    have e1 : max r 0 = r := by omega
    have hv : roomVal r = .tuple #[.int .i64 r, .bool true] := by unfold roomVal; rw [d1, e1]
    rw [hv]
    rw [e1, d1] at HFIT
    clear st hp hhm hfit hft h0 d1 hv hfr e1
    go_enter Tryz.func64, Tryz.ntmps64
    go_wp2_with (go_at_call 85; refine HFIT.out.mono ?_; rintro e w1 ⟨rfl, n1, rfl⟩)
    go_ret2
    exact ⟨rfl, g, (To.refl HST.out).drewN n1⟩
  · rw [if_neg h0] at hs
    have d1 : decide (0 ≤ ft) = false := by simpa using h0
    have e1 : max ft 0 = 0 := by omega
    rw [e1, d1] at HFIT
    have HS := Lib.hid hs
    have HF := Lib.hid hfr
    clear hfit hft h0 d1 hfr e1 hs
    have HU : Hid (∀ wr, Below w.heap.size w wr → wr.cell? ⟨p, 5, none⟩ = some (vptr hmq) ∧ ∀ h, Calls Tryz.prog 73 #[vptr hmq, .int .i64 h] wr (RetV (.bool (s.hosts.up h)) wr) ∧ Calls Tryz.prog 107 #[vptr hmq, .int .i64 h] wr (RetV (.int .i64 (s.hosts.free h)) wr)) := Lib.hid fun wr hb => by
      have st2 := st.below hb
      exact ⟨st2.hosts hp hhm, fun h => ⟨hup_use st2 hhm h, hfree_use st2 hhm h⟩⟩
    have HW : Hid (∀ wr bh (h : Int), Below w.heap.size w wr → Blk wr bh 3 #[.int .i64 h] → Calls Tryz.prog 53 #[vptr p, .func (.func 108) #[] #[vptr bh]] wr (NumsOut ((s.idleL h).map (·.1)) wr)) := Lib.hid fun wr bh h hb hbk => by
      have hw := where_any 108 #[vptr bh] (fun b => b.host == h && b.idle && !b.pinned) wr g s (st.below hb) (fun W pb b hW hbx => p_room pb bh b h W hbx ((old_cell hW hbk).cell 0)) (enters_of Tryz.func108 (by kernel_rfl) rfl)
      rw [hp] at hw
      exact hw
    have gd := st.good
    have hsb := st.sorted.2.2.2.1
    obtain ⟨bm, hbm⟩ : ∃ t, g.ad .boxes = t := ⟨_, rfl⟩
    have HL : Hid (∀ wr, Below w.heap.size w wr → wr.cell? ⟨p, 7, none⟩ = some (.map (some bm)) ∧ ∀ id b, FM.get s.boxes id = some b → ∃ bq, (Instr.lookup 52 (.map (some bm)) (.int .i64 id) false).run Tryz.prog wr = .ok (vptr bq) wr ∧ wr.cell? ⟨bq, 3, none⟩ = some (.int .i64 b.mem)) := Lib.hid fun wr hb => by
      have st2 := st.below hb
      refine ⟨st2.boxes hp hbm, fun id b hg => ?_⟩
      refine ⟨g.ad (.box id), ?_, (st2.box hg rfl).cell 3⟩
      obtain ⟨ov, m⟩ := st2.mem
      have := boxes_look m.boxes (W := wr) (w64_box gd hg).1 rfl
      rw [hg, hbm] at this
      exact this
    have HME : Hid (∀ (h : Int) k, k < (s.idleL h).length → ∃ b : Box, FM.get s.boxes (((s.idleL h).map (·.1)).getD k 0) = some b ∧ s.memTo h (k + 1) = s.memTo h k + b.mem ∧ 1 ≤ b.mem ∧ b.mem ≤ 4096) := Lib.hid fun h k hk => by
      have hm2 : (s.idleL h)[k] ∈ s.boxes := (List.mem_filter.1 (List.getElem_mem hk)).1
      have hg : FM.get s.boxes (s.idleL h)[k].1 = some (s.idleL h)[k].2 := FM.get_of_mem hsb hm2
      have e : ((s.idleL h).map (·.1)).getD k 0 = (s.idleL h)[k].1 := by rw [List.getD_eq_getElem?_getD, List.getElem?_map, List.getElem?_eq_getElem hk]; rfl
      rw [e]
      have gm := (gd.boxes _ _ hg).2.2.2.mem
      refine ⟨_, hg, ?_, gm.1, gm.2⟩
      unfold Core.memTo
      rw [List.take_succ_eq_append_getElem hk, List.map_append, List.sum_append]
      simp
    have HBX : Hid (∀ x ∈ s.boxes, 0 ≤ x.2.mem ∧ x.2.mem ≤ 4096) := Lib.hid fun x hx => by
      have := (gd.boxes _ _ (FM.get_of_mem hsb (show (x.1, x.2) ∈ s.boxes from hx))).2.2.2.mem
      omega
    have HLEN : Hid (∀ h, (s.idleL h).length ≤ 2199023255552) := Lib.hid fun h => by
      have h1 : (s.idleL h).length ≤ s.boxes.length := List.length_filter_le _ _
      have := gd.outs; have := gd.next
      omega
    have HFB : Hid (∀ h, 0 ≤ s.hosts.free h ∧ s.hosts.free h ≤ 4096) := Lib.hid fun h => by
      obtain ⟨ov, m⟩ := st.mem
      exact free_bd m.hok h
    have HP := Lib.hid hp
    have HHQ := Lib.hid hhm
    clear st hp hhm gd hsb hbm
    go_enter Tryz.func64, Tryz.ntmps64
    go_wp2_with (go_at_call 85; refine HFIT.out.mono ?_; rintro e w1 ⟨rfl, n1, rfl⟩)
    have HB0 := Lib.hid (Below.drewN' (w := w) n1)
    generalize w.drewN n1 = w0 at HB0 ⊢
    go_loopw [25] (fun i wr => ∃ k : Nat, k ≤ 32 ∧ i = .int .i64 k ∧ RoomRel w g s mem s' r k wr) (fun i _ => 32 - (intOf i).toNat)
    case atStart => exact ⟨0, by omega, rfl, HB0.out, HS.out⟩
    case round =>
      obtain ⟨k, hk, rfl, hr⟩ := hrel
      have HR := Lib.hid hr
      have hbr := hr.below
      by_cases hlt : k < 32
      · have hz : (k : Int) < 32 := by omega
        have hba := hbr.alloc hbr.size (.cells #[.int .i64 (k : Int)] 3)
        have hbk := Blk.new wr 3 #[.int .i64 (k : Int)]
        obtain ⟨c5a, hcalls⟩ := HU.out _ hba
        have HCN : Hid (∀ n h, Calls Tryz.prog 73 #[vptr hmq, .int .i64 h] ((wr.alloc (.cells #[.int .i64 (k : Int)] 3)).drewN n) (RetV (.bool (s.hosts.up h)) ((wr.alloc (.cells #[.int .i64 (k : Int)] 3)).drewN n)) ∧ Calls Tryz.prog 107 #[vptr hmq, .int .i64 h] ((wr.alloc (.cells #[.int .i64 (k : Int)] 3)).drewN n) (RetV (.int .i64 (s.hosts.free h)) ((wr.alloc (.cells #[.int .i64 (k : Int)] 3)).drewN n))) := Lib.hid fun n h => (HU.out _ (below_drewN hba n)).2 h
        have HBA := Lib.hid hba
        have HBK := Lib.hid hbk
        have ck : (wr.alloc (.cells #[.int .i64 (k : Int)] 3)).cell? ⟨wr.heap.size, 0, none⟩ = some (.int .i64 (k : Int)) := hbk.cell 0
        have HC0 := Lib.hid hcalls
        have HNS := Lib.hid (show w.heap.size ≤ wr.heap.size from hbr.size)
        clear hcalls hba hbk hr hbr
        go_upto_region 7 with (fail)
        generalize wr.alloc (.cells #[.int .i64 (k : Int)] 3) = wa at c5a ck HCN HBA HBK HC0 ⊢
        generalize wr.heap.size = bh at ck HBK HNS ⊢
        cases hup : s.hosts.up k with
        | false =>
          have HSK := Lib.hid (rooms_skip hlt HR.out.rest (.inl hup))
          have HUP : Hid (∀ n, Calls Tryz.prog 73 #[vptr hmq, .int .i64 (k : Int)] (wa.drewN n) (RetV (.bool false) (wa.drewN n))) := Lib.hid fun n => by rw [← hup]; exact (HCN.out n k).1
          have HUP0 : Hid (Calls Tryz.prog 73 #[vptr hmq, .int .i64 (k : Int)] wa (RetV (.bool false) wa)) := Lib.hid (by rw [← hup]; exact (HC0.out k).1)
          clear hup
          go_quiet ((go_at_call 73; first | exact Calls.quiet_of HUP0.out | exact Calls.quiet_of (HUP.out _)))
          go_wp2
          go_roundw
          case rel => exact ⟨k + 1, by omega, by go_num, below_drewN HBA.out _, HSK.out⟩
          case measure => simp [intOf]; omega
        | true =>
          have HUP : Hid (∀ n, Calls Tryz.prog 73 #[vptr hmq, .int .i64 (k : Int)] (wa.drewN n) (RetV (.bool true) (wa.drewN n))) := Lib.hid fun n => by rw [← hup]; exact (HCN.out n k).1
          have HUP0 : Hid (Calls Tryz.prog 73 #[vptr hmq, .int .i64 (k : Int)] wa (RetV (.bool true) wa)) := Lib.hid (by rw [← hup]; exact (HC0.out k).1)
          have HUPE := Lib.hid hup
          clear hup
          go_quiet ((go_at_call 73; first | exact Calls.quiet_of HUP0.out | exact Calls.quiet_of (HUP.out _)))
          go_upto_region 8 with (fail)
          have HB8 := Lib.hid (below_drewN HBA.out nq)
          have HBK8 := Lib.hid (HBK.out.drewN nq)
          have ck8 : (wa.drewN nq).cell? ⟨bh, 0, none⟩ = some (.int .i64 (k : Int)) := ck
          have c58 : (wa.drewN nq).cell? ⟨p, 5, none⟩ = some (vptr hmq) := c5a
          clear ck c5a HUP HUP0 HCN HC0 HBA HBK
          generalize wa.drewN nq = w8 at HB8 HBK8 ck8 c58 ⊢
          obtain ⟨fr, hfr⟩ : ∃ fr, fr = s.hosts.free k := ⟨_, rfl⟩
          have HFRN : Hid (∀ n, Calls Tryz.prog 107 #[vptr hmq, .int .i64 (k : Int)] (w8.drewN n) (RetV (.int .i64 fr) (w8.drewN n))) := Lib.hid fun n => by rw [hfr]; exact ((HU.out _ (below_drewN HB8.out n)).2 k).2
          have HFR0 : Hid (Calls Tryz.prog 107 #[vptr hmq, .int .i64 (k : Int)] w8 (RetV (.int .i64 fr) w8)) := Lib.hid (by rw [hfr]; exact ((HU.out _ HB8.out).2 k).2)
          have hfb := HFB.out k
          rw [← hfr] at hfb
          obtain ⟨fr0, fr1⟩ := hfb
          have HFRE := Lib.hid hfr
          clear hfr
          go_quiet ((go_at_call 107; first | exact Calls.quiet_of HFR0.out | exact Calls.quiet_of (HFRN.out _)))
          have HB9 := Lib.hid (below_drewN HB8.out nq)
          have HBK9 := Lib.hid (HBK8.out.drewN nq)
          clear ck8 c58 HFRN HFR0 HB8 HBK8
          generalize w8.drewN nq = w9 at HB9 HBK9 ⊢
          obtain ⟨n, hn⟩ : ∃ n, n = (s.idleL k).length := ⟨_, rfl⟩
          have hxn : ((s.idleL k).map (·.1)).length = n := by rw [List.length_map, hn]
          have HW9 : Hid (Calls Tryz.prog 53 #[vptr p, .func (.func 108) #[] #[vptr bh]] w9 fun e w10 => ∃ va vcap, e = .returned (.slice va n vcap) ∧ (∀ j, j < n → ∃ q, va = some ⟨q, 0, none⟩ ∧ w10.cell? ⟨q, j, none⟩ = some (.int .i64 (((s.idleL k).map (·.1)).getD j 0)) ∧ n ≤ vcap) ∧ Below w.heap.size w w10 ∧ Blk w10 bh 3 #[.int .i64 (k : Int)]) := Lib.hid ((HW.out w9 bh k HB9.out HBK9.out).mono fun e w10 h => by
            obtain ⟨v, rfl, hv, hb⟩ := h
            obtain ⟨va, vcap, hv2⟩ := hv.slice
            subst hv2
            rw [hxn] at hv ⊢
            refine ⟨va, vcap, rfl, fun j hj => ?_, below_step HB9.out hb, HBK9.out.below hb HBK9.out.lt⟩
            rcases hv with ⟨h1, h2⟩ | ⟨q, cap, cs, h1, _, h3, _, h4, h5⟩
            · rw [h2] at hxn; simp at hxn; omega
            · cases h1
              exact ⟨q, rfl, (h4.cell j).trans (h5 j (by rw [hxn]; exact hj)), by rw [← hxn]; exact h3⟩)
          clear hxn
          have hnl : n ≤ 2199023255552 := by rw [hn]; exact HLEN.out k
          have hmb := fun j (hj : j ≤ n) => memTo_bd (s := s) k HBX.out j (by rw [← hn]; exact hj)
          have hme := fun j (hj : j < n) => HME.out k j (by rw [← hn]; exact hj)
          have hall : s.memTo k n = s.idles k := by rw [hn]; exact memTo_all s k
          have HMB := Lib.hid hmb
          have HME2 := Lib.hid hme
          have HALL := Lib.hid hall
          clear hmb hme hall hn
          go_wp2_with (go_at_call 53; refine HW9.out.mono ?_; rintro e w10 ⟨va, vcap, rfl, hc, hb, hbk⟩; have HC10 := Lib.hid hc; have HB10 := Lib.hid hb; have HBK10 := Lib.hid hbk; clear hc hb hbk)
          go_loop [9, 45] (fun a i => ∃ j : Nat, j ≤ n ∧ i = .int .i64 j ∧ a = .int .i64 (fr + s.memTo k j)) (fun _ i => n - (intOf i).toNat)
          case atStart => exact ⟨0, by omega, rfl, by show _ = Value.int .i64 (fr + 0); rw [Int.add_zero]⟩
          case round =>
            obtain ⟨j, hj, rfl, rfl⟩ := hrel
            by_cases hlt2 : j < n
            · obtain ⟨q, hva, cq, hcap⟩ := HC10.out j hlt2
              obtain ⟨b, hg, hsum, b0, b1⟩ := HME2.out j hlt2
              obtain ⟨c7, hl⟩ := HL.out w10 HB10.out
              obtain ⟨bq, hlk, c3⟩ := hl _ b hg
              obtain ⟨m0, m1⟩ := HMB.out j hj
              obtain ⟨id, hid⟩ : ∃ id, id = ((s.idleL k).map (·.1)).getD j 0 := ⟨_, rfl⟩
              rw [← hid] at cq hlk
              obtain ⟨sm, hsm⟩ : ∃ sm, sm = s.memTo k j := ⟨_, rfl⟩
              rw [← hsm] at m0 m1 hsum ⊢
              obtain ⟨bmm, hbmm⟩ : ∃ x, x = b.mem := ⟨_, rfl⟩
              rw [← hbmm] at c3 hsum b0 b1
              have HSUM := Lib.hid hsum
              have hz2 : (j : Int) < (n : Int) := by omega
              have hsm2 : sm ≤ 9007199254740992 := by omega
              subst hva
              clear hsum hl hid hsm hbmm hg m1
              go_wp2
              go_round
              case rel => exact ⟨j + 1, by omega, by go_num, by rw [HSUM.out]; go_num⟩
              case measure => simp [intOf]; omega
            · have hjn : j = n := by omega
              subst hjn
              have hz2 : ¬ (j : Int) < (j : Int) := by omega
              rw [HALL.out]
              obtain ⟨idl, hidl⟩ : ∃ x, x = s.idles k := ⟨_, rfl⟩
              rw [← hidl]
              by_cases hfm : fr + idl < mem
              · have HSK := Lib.hid (rooms_skip hlt HR.out.rest (.inr (by rw [← hidl, ← HFRE.out]; exact hfm)))
                clear hidl
                go_wp2
                go_roundw
                case rel => exact ⟨k + 1, by omega, by go_num, HB10.out, HSK.out⟩
                case measure => simp [intOf]; omega
              · have hhere := rooms_here hlt HR.out.rest (by rintro (h | h); (rw [HUPE.out] at h; cases h); exact hfm (by rw [hidl, HFRE.out]; exact h))
                have HHERE := Lib.hid hhere
                have HT0 := Lib.hid (To.below HST.out HB10.out)
                have HST10 := Lib.hid (HST.out.below HB10.out)
                have HOWN := Lib.hid (HF.out bh HNS.out)
                have hk0 : 0 ≤ (k : Int) ∧ (k : Int) < 32 := by omega
                clear hidl hhere
                go_wp2
                go_loopg [12] s.boxes.length (fun gg _ wr => ∃ st' g', Core.evicts (gg + 1) st' k mem = some s' ∧ To w10 g s wr g' st')
                case atStart => exact ⟨s, g, HHERE.out.2, To.refl HST10.out⟩
                case round =>
                  obtain ⟨s2, g2, hev, ht⟩ := hrel
                  have hp2 := (ht.head (t := .core) trivial).trans HP.out
                  have hm2 := (ht.head (t := .hosts) trivial).trans HHQ.out
                  have c5w := ht.st.hosts hp2 hm2
                  have ckw : wr.cell? ⟨bh, 0, none⟩ = some (.int .i64 (k : Int)) := (ht.blk HBK10.out HOWN.out).cell 0
                  obtain ⟨f2, hf2⟩ : ∃ f2, f2 = s2.hosts.free k := ⟨_, rfl⟩
                  have HFR0 : Hid (Calls Tryz.prog 107 #[vptr hmq, .int .i64 (k : Int)] wr (RetV (.int .i64 f2) wr)) := Lib.hid (by rw [hf2]; exact hfree_use ht.st hm2 k)
                  have HFRN : Hid (∀ n, Calls Tryz.prog 107 #[vptr hmq, .int .i64 (k : Int)] (wr.drewN n) (RetV (.int .i64 f2) (wr.drewN n))) := Lib.hid fun n => by rw [hf2]; exact hfree_use (ht.st.drewN n) hm2 k
                  by_cases hfr2 : f2 < mem
                  · obtain ⟨b, t1, hb, hkl, hev2⟩ := evicts_next hev (by rw [← hf2]; exact hfr2)
                    obtain ⟨gg', hgg⟩ : ∃ gg', gk = gg' + 1 := by
                      cases gk with
                      | zero => rw [Core.evicts.eq_def] at hev2; cases hev2
                      | succ m => exact ⟨m, rfl⟩
                    subst hgg
                    have HEV : Hid (∀ n, Calls Tryz.prog 109 #[vptr p, .int .i64 (k : Int)] (wr.drewN n) fun e w1 => ∃ q, e = .returned (vptr q) ∧ Calls Tryz.prog 110 #[vptr q] w1 fun e w2 => e = .returned (.tuple #[.int .i64 b.id, .bool true]) ∧
                        ∃ bm bq, w2.cell? ⟨p, 7, none⟩ = some (.map (some bm)) ∧ (Instr.lookup 52 (.map (some bm)) (.int .i64 b.id) false).run Tryz.prog w2 = .ok (vptr bq) w2 ∧
                          Calls Tryz.prog 42 #[vptr p, vptr bq] w2 fun e w3 => e = .returned (.tuple #[]) ∧ ∃ g', To w10 g s w3 g' t1) := Lib.hid fun n => by
                      refine (evict_round (ht.st.drewN n) hp2 hk0 hb hkl).mono ?_
                      rintro e w1 ⟨q, he, h1⟩
                      refine ⟨q, he, h1.mono ?_⟩
                      rintro e w2 ⟨he2, bm, bq, h3, h4, h5⟩
                      refine ⟨he2, bm, bq, h3, h4, h5.mono ?_⟩
                      rintro e w3 ⟨he3, g4, h6⟩
                      exact ⟨he3, g4, (ht.drewN n).trans h6⟩
                    have HEV2 := Lib.hid hev2
                    have d1 : decide (f2 < mem) = true := by simpa using hfr2
                    clear hev ht hp2 hm2 hf2 hb hkl hev2 hfr2
                    go_wp2
                    go_quiet ((go_at_call 107; first | exact Calls.quiet_of HFR0.out | exact Calls.quiet_of (HFRN.out _)))
                    go_wp2_with (first
                      | (go_at_call 109; refine (HEV.out _).mono ?_; rintro e w11 ⟨q11, rfl, h11⟩; have H11 := Lib.hid h11; clear h11)
                      | (go_at_call 110; refine H11.out.mono ?_; rintro e w12 ⟨rfl, bm2, bq2, c7, hlk, h12⟩; have H12 := Lib.hid h12; clear h12)
                      | (go_at_call 42; refine H12.out.mono ?_; rintro e w13 ⟨rfl, g13, h13⟩; have H13 := Lib.hid h13; clear h13))
                    go_roundg gg'
                    case measure => omega
                    case rel => exact ⟨t1, g13, HEV2.out, H13.out⟩
                  · have hend := evicts_end hev (by rw [← hf2]; exact hfr2)
                    subst hend
                    have HT := Lib.hid ht
                    have d1 : decide (f2 < mem) = false := by simpa using hfr2
                    clear hev ht hp2 hm2 hf2 hfr2
                    go_wp2
                    go_quiet ((go_at_call 107; first | exact Calls.quiet_of HFR0.out | exact Calls.quiet_of (HFRN.out _)))
                    go_wp2
                    go_ret2
                    have er : roomVal r = .tuple #[.int .i64 (k : Int), .bool true] := by
                      unfold roomVal
                      rw [HHERE.out.1]
                      have h1 : decide (0 ≤ (k : Int)) = true := by simp
                      have h2 : max (k : Int) 0 = k := by omega
                      rw [h1, h2]
                    exact ⟨by rw [er]; rfl, g2, HT0.out.trans (HT.out.drewN _)⟩
      · have hk3 : k = 32 := by omega
        subst hk3
        have he := hr.rest
        have e0 : Core.rooms (32 - 32) s mem ((32 : Nat) : Int) = some (s, -1) := rfl
        rw [e0] at he
        cases he
        have hz : ¬ ((32 : Nat) : Int) < 32 := by omega
        clear e0 hr hbr
        go_wp2
        go_ret2
        exact ⟨rfl, g, To.below HST.out HR.out.below⟩
theorem room_any {w : World} {g : G} {s s' : Core} {p : Nat} {mem r : Int} (st : St w g s) (hp : g.ad .core = p) (hm : 0 ≤ mem ∧ mem ≤ 4096) (hs : s.room mem = some (s', r)) : Calls Tryz.prog 64 #[vptr p, .int .i64 mem] w (Post (roomVal r) w g s s') :=
  (room_fresh (fun _ hk => fresh_own hk) (To.fresh st).st hp hm hs).mono fun _ _ h => h.fresh st
end Go.Proofs.YtjmdgicdpggljaaGreat.GH

/- Proved: what slices.Backward's iterator does with whatever loop it is ranged over in, where each round keeps what it asks. -/
namespace Go.Proofs.YtjmdgicdpggljaaGreat.GH
open Go.RowKit Go.Shelf Go.Proofs.YtjmdgicdpggljaaGreat.Histo Go.Proofs.YtjmdgicdpggljaaGreat.Event Go.Proofs.YtjmdgicdpggljaaGreat.Ring
set_option linter.unusedVariables false

attribute [local go_sem] Oper.semAt_some
/-- A slice of numbers that can be read. -/
def Reads (W : World) (Bs : Nat) (va : Option Addr) (len cap : Nat) (zs : List Int) : Prop :=
  W.cell? ⟨Bs, 0, none⟩ = some (.slice va len cap) ∧ ∀ j, j < len → ∃ b, va = some ⟨b, 0, none⟩ ∧ W.cell? ⟨b, j, none⟩ = some (.int .i64 (zs.getD j 0))
set_option maxRecDepth 100000 in
set_option maxHeartbeats 4000000 in
theorem back_in (F : Fence) (n : Nat) (h7 : F.fn 121) (hro : F.round = none) (hn : 1 ≤ n) (l Bs : Nat) (va : Option Addr) (len cap : Nat) (zs : List Int) (hlen : len ≤ 4398046511104) (hcap : len ≤ cap) (J : Nat → World → Prop) (Jx : World → Prop)
    (hJ : ∀ k W, J k W → Reads W Bs va len cap zs)
    (hY : ∀ k W, J k W → k < len → YieldAt F (n - 1) Tryz.prog l #[.int .i64 ((len : Int) - 1 - k), .int .i64 (zs.getD (len - 1 - k) 0)] W fun e W' => (e = .returned (.bool true) ∧ J (k + 1) W') ∨ (e = .returned (.bool false) ∧ Jx W'))
    (W : World) (h0 : J 0 W) :
    CallsIn F n Tryz.prog 121 #[.func (.yield l) #[] #[], .pointer (some ⟨Bs, 0, none⟩)] W fun e W' => (∃ v, e = .returned v) ∧ (J len W' ∨ Jx W') := by
  have hr0 := (hJ 0 W h0).1
  have HJ := Lib.hid hJ
  have HY := Lib.hid hY
  have H0 := Lib.hid h0
  have n0 : (len : Int) ≤ 4398046511104 := by omega
  clear hJ hY h0
  refine callsIn_of_wp Tryz.func121 rfl h7 ?_ hro
  simp only [Tryz.ntmps121, List.size_toArray, List.length_cons, List.length_nil, Nat.reduceAdd, Nat.reduceSub, Array.replicate_succ, Array.replicate_zero, List.push_toArray, List.append_toArray, List.nil_append, List.cons_append]
  gi_wp2
  gi_loopw [3] (fun i wr => ∃ k : Nat, k ≤ len ∧ i = .int .i64 ((len : Int) - 1 - k) ∧ J k wr) (fun i _ => (intOf i + 1).toNat)
  case atStart => exact ⟨0, Nat.zero_le _, by simp, H0.out⟩
  case round =>
    obtain ⟨k, hk, rfl, hJs⟩ := hrel
    obtain ⟨hc0, hcj⟩ := HJ.out k wr hJs
    have HJS := Lib.hid hJs
    have HCJ := Lib.hid hcj
    clear hJs hcj
    by_cases hlt : k < len
    · obtain ⟨j, hj⟩ : ∃ j : Nat, len = j + k + 1 := ⟨len - 1 - k, by omega⟩
      have e1 : (len : Int) - 1 - k = (j : Int) := by omega
      have e2 : len - 1 - k = j := by omega
      obtain ⟨b, hva, cj⟩ := HCJ.out j (by omega)
      have hy := HY.out k wr HJS.out hlt
      rw [e1, e2] at hy
      rw [e1]
      obtain ⟨fn, tmps, assign, body, hyr, hR⟩ := hy
      have HR := Lib.hid hR
      have hjl : j < len := by omega
      have hjz : (0 : Int) ≤ (j : Int) := by omega
      have HKJ : Hid ((len : Int) - 1 - (k + 1 : Nat) = (j : Int) - 1 ∧ (j : Int) = (len : Int) - 1 - k) := Lib.hid (by omega)
      have hjn : (j : Int) < (len : Int) := by omega
      subst hva
      clear hj e1 e2 hR hk
      obtain ⟨z, hz⟩ : ∃ z, z = zs.getD j 0 := ⟨_, rfl⟩
      rw [← hz] at cj hyr
      clear hz
      gi_wp2
      refine HR.out.mono ?_
      rintro e W3 (⟨rfl, hJ3⟩ | ⟨rfl, hJx3⟩)
      · have HJ3 := Lib.hid hJ3
        clear hJ3
        gi_wp2
        go_roundw
        case rel => exact ⟨k + 1, by omega, by rw [HKJ.out.1], HJ3.out⟩
        case measure => simp [intOf]
      · have HJ3 := Lib.hid hJx3
        clear hJx3
        gi_wp2
        refine bodyPost_ret (results_none rfl _ _ _) rfl ?_
        exact ⟨⟨_, rfl⟩, .inr HJ3.out⟩
    · have hkl : k = len := by omega
      subst hkl
      have hz : ¬ (0 : Int) ≤ (k : Int) - 1 - k := by omega
      have e1 : (k : Int) - 1 - k = -1 := by omega
      rw [e1]
      clear hz e1
      gi_wp2
      go_end0
      exact ⟨⟨_, rfl⟩, .inl HJS.out⟩
/-- A region's operations in a round, out of their walk as anywhere. -/
theorem opIn_of_wp {P : Program} {L n : Nat} {o : Oper} {a : Act} {w : World} {K : Act → World → Prop} {Q : Exit → Act → World → Prop} (hd : ∀ c, o.op ≠ .defer c) (hQ : ¬ LetsOut Q) (h : o.wp P a w K Q ∨ (o.asks P a w ∧ LetsOut Q)) : o.wpIn (Fence.wide.inRound L) n P a w K Q := by
  rcases h with h | h
  · refine ⟨fun _ _ => trivial, ?_⟩
    rw [show (Fence.wide.inRound L).round = some L from rfl, Oper.semAt_some L _ _ hd]
    unfold Oper.wp at h
    generalize (execOp a.eval o).run P w = r at h ⊢
    cases r with
    | ok x w' =>
      cases x with
      | value v => exact h
      | skip => exact h
      | «defer» d => exact h
      | enter f args => exact ⟨(fun hh => by cases hh), CallsIn.inRound L (callsIn_wide.2 h)⟩
      | row row args => exact ⟨(fun hh => by cases hh), fun c cs _ => let ⟨v, w', r, s⟩ := h c cs; ⟨v, w', r, stepsIn_wide.2 s⟩⟩
      | _ => exact h.elim
    | halt x w' =>
      cases x with
      | panic v => exact h
      | _ => exact h.elim
  · exact (hQ h.2).elim
theorem anyIn_of_any {P : Program} {L n : Nat} {md : Region.Mode} {ops : Array Oper} {Q : Exit → Act → World → Prop} (hd : ∀ o ∈ ops.toList, ∀ c, o.op ≠ .defer c) (hQ : ¬ LetsOut Q) : ∀ (fuel : Nat) (listed : Array Bool) (a : Act) (w : World), wpAny P md ops Q fuel listed a w → wpAnyIn (Fence.wide.inRound L) n P md ops Q fuel listed a w
  | 0, _, _, _, h => h
  | fuel + 1, _, _, _, h => ⟨h.1, fun i hi => by
      have h2 := wpOp_mono (fun a' w' h' => anyIn_of_any (n := n) (L := L) hd hQ fuel _ a' w' h') (h.2 i hi)
      unfold wpOp at h2
      unfold wpOpIn
      cases ho : ops[i]? with
      | none => simp only [ho] at h2; exact h2
      | some o =>
        simp only [ho] at h2 ⊢
        have hm : o ∈ ops.toList := by
          rw [Array.getElem?_eq_some_iff] at ho
          obtain ⟨hlt, rfl⟩ := ho
          simp
        split
        · next hw => rw [if_pos hw] at h2; exact opIn_of_wp (hd o hm) hQ h2
        · next hw => rw [if_neg hw] at h2; exact ⟨fun _ _ => trivial, h2⟩⟩
/-- A region that draws its order, in a round: by a condition that its worlds meet. -/
theorem region_in_round {P : Program} {L n id : Nat} {ops : Array Oper} {Q : Exit → Act → World → Prop} {a : Act} {w : World} (S : World → Prop) (hm : P.follows .mixedOrders = true) (hd : (ops.toList.all fun o => match o.op with | .defer _ => false | _ => true) = true) (hQ : ¬ LetsOut Q)
    (h : wpAnyH P .any ops Q S ops.size (Array.replicate ops.size false) a w.drew) : (Code.region id ops true).wpIn (Fence.wide.inRound L) n P Q a w :=
  wpIn_region_any hm (anyIn_of_any (fun o ho c e => by have := List.all_eq_true.1 hd o ho; rw [e] at this; cases this) hQ _ _ _ _ (wpAny_of_held _ _ _ _ h))
/-- How the body of a round may be left: at its end, or by the one jump. -/
def roundQ (id L D : Nat) (I : Nat → World → Prop) (Ix : World → Prop) (k : Nat) (W : World) : Exit → Act → World → Prop
  | .normal, _, W' => I (k + 1) W' ∧ W'.heap[L]? = W.heap[L]? ∧ W'.heap[D]? = W.heap[D]?
  | .exit i, _, W' => i = id ∧ Ix W' ∧ W'.heap[L]? = W.heap[L]? ∧ W'.heap[D]? = W.heap[D]?
  | _, _, _ => False
theorem range_back {gd : Operand} {ps : Array Tmp} {assign body : Code} {Q : Exit → Act → World → Prop} {a : Act} {w : World} (Bs : Nat) (va : Option Addr) (len cap : Nat) (zs : List Int) (hlen : len ≤ 4398046511104) (hcap : len ≤ cap)
    (hg : a.eval gd = .func (.func 121) #[] #[.pointer (some ⟨Bs, 0, none⟩)]) (hps : ps.size = 2) (id : Nat) (I : Nat → World → Prop) (Ix : World → Prop)
    (hIr : ∀ k W, I k W → Reads W Bs va len cap zs) (hIp : ∀ k W o r, I k W → W.heap[w.heap.size + 1]? = some (.loop r) → I k (W.putObj (w.heap.size + 1) o)) (hXp : ∀ W o r, Ix W → W.heap[w.heap.size + 1]? = some (.loop r) → Ix (W.putObj (w.heap.size + 1) o))
    (h0 : ∀ r, I 0 ((w.alloc (.deferred (some []))).alloc (.loop r)))
    (hround : ∀ k W W2 r, k < len → I k W → I k W2 → W2.heap[w.heap.size + 1]? = some (.loop r) → W2.heap[w.heap.size]? = some (.deferred (some [])) →
      assign.wpIn (Fence.wide.inRound (w.heap.size + 1)) 3 Tryz.prog (Exit.then (fun a₁ w₁ => w₁ = W ∧ body.wpIn (Fence.wide.inRound (w.heap.size + 1)) 3 Tryz.prog (roundQ id (w.heap.size + 1) w.heap.size I Ix k W2) a₁ W2) (fun _ _ _ => False)) { tmps := (ps.zip #[.int .i64 ((len : Int) - 1 - k), .int .i64 (zs.getD (len - 1 - k) 0)]).foldl (fun t (p, v) => t.setIfInBounds p v) a.tmps, defers := [] } W)
    (hQ : ∀ a' W, Q .normal a' W → Q (.exit id) a' W)
    (hdone : ∀ W, I len W ∨ Ix W → W.heap[w.heap.size]? = some (.deferred (some [])) → Q .normal { a with defers := { target := .collected w.heap.size, args := #[] } :: a.defers } W) :
    (Code.rangeFunc gd ps assign body).wp Tryz.prog Q a w := by
  refine (wpIn_wide (n := 5)).1 (wpIn_rangeFunc ?_)
  intro fn hfn
  obtain ⟨rec, hrec⟩ : ∃ rec : LoopState → Option Code → Loop, rec = fun st pe => { state := st, pending := pe, fn, tmps := a.tmps, params := ps, assign, body, defers := w.heap.size } := ⟨_, rfl⟩
  obtain ⟨W1, hW1⟩ : ∃ W1, (w.alloc (.deferred (some []))).alloc (.loop (rec .ready none)) = W1 := ⟨_, rfl⟩
  have hL1 : W1.heap[w.heap.size + 1]? = some (.loop (rec .ready none)) := by
    rw [← hW1]; have := World.alloc_heap_new (w.alloc (.deferred (some []))) (.loop (rec .ready none)); rwa [World.size_alloc] at this
  have hK1 : W1.heap[w.heap.size]? = some (.deferred (some [])) := by
    rw [← hW1]; exact (Below.heap_alloc _ _ _ (by simp)).trans (World.alloc_heap_new w _)
  have hI1 : I 0 W1 := by rw [← hW1]; exact h0 _
  refine ⟨w.heap.size + 1, [{ target := .collected w.heap.size, args := #[] }], W1, { target := .fn (.func 121) #[.pointer (some ⟨Bs, 0, none⟩)], args := #[.func (.yield (w.heap.size + 1)) #[] #[]] }, W1, 121,
    #[.func (.yield (w.heap.size + 1)) #[] #[]] ++ #[.pointer (some ⟨Bs, 0, none⟩)], W1, ?_, ?_, ?_, ?_, fun _ => by omega, ?_⟩
  · rw [← hW1, hrec]; exact run_enterLoop_outer _ _ _ _ _
  · simp only [resolve, hg]
    simp [go_sem]
  · intro f' hf'; trivial
  · have eg := enters_of Tryz.func121 (by kernel_rfl) rfl
    simp [invoke, go_sem, eg]
  · refine (back_in Fence.wide (5 - 1) trivial rfl (by omega) (w.heap.size + 1) Bs va len cap zs hlen hcap
      (fun k W => I k W ∧ W.heap[w.heap.size + 1]? = some (.loop (rec .ready none)) ∧ W.heap[w.heap.size]? = some (.deferred (some [])))
      (fun W => Ix W ∧ W.heap[w.heap.size + 1]? = some (.loop (rec .done (some (.exit id)))) ∧ W.heap[w.heap.size]? = some (.deferred (some [])))
      (fun k W h => hIr k W h.1) ?_ W1 ⟨hI1, hL1, hK1⟩).mono ?_
    · rintro k W ⟨hi, hl, hk⟩ hlt
      have hltL : w.heap.size + 1 < W.heap.size := (Array.getElem?_eq_some_iff.1 hl).1
      have hy := run_yield (P := Tryz.prog) (args := #[.int .i64 ((len : Int) - 1 - k), .int .i64 (zs.getD (len - 1 - k) 0)]) hl (by rw [hrec]; exact hps.symm)
      rw [hrec] at hy
      refine ⟨fn, _, assign, body, hy, roundIn_of_wpIn hfn ?_⟩
      clear hy
      have hl2 : (W.putObj (w.heap.size + 1) (.loop { rec .ready none with state := .busy })).heap[w.heap.size + 1]? = some (.loop { rec .ready none with state := .busy }) := World.putObj_heap_same hltL
      have hk2 : (W.putObj (w.heap.size + 1) (.loop { rec .ready none with state := .busy })).heap[w.heap.size]? = some (.deferred (some [])) := (World.putObj_heap_other (by omega)).trans hk
      refine wpIn_mono (hround k W _ _ hlt hi (hIp k W _ _ hi hl) hl2 hk2) ?_
      intro e0 a0 w0 hp0
      have he0 : e0 = .normal := by cases e0 <;> first | rfl | exact hp0.elim
      subst he0
      obtain ⟨rfl, hbody⟩ := hp0
      refine ⟨_, run_beginRound hl (by rw [hrec]), ?_⟩
      refine wpIn_mono hbody ?_
      have fin : ∀ (jump : Option Code) (W3 : World), W3.heap[w.heap.size + 1]? = some (.loop { rec .ready none with state := .busy }) → W3.heap[w.heap.size]? = some (.deferred (some [])) →
          (Instr.endRound (w.heap.size + 1) jump).run Tryz.prog W3 = .ok (.bool jump.isNone) (W3.putObj (w.heap.size + 1) (.loop (rec (if jump.isNone then .ready else .done) jump))) ∧
          (W3.putObj (w.heap.size + 1) (.loop (rec (if jump.isNone then .ready else .done) jump))).heap[w.heap.size + 1]? = some (.loop (rec (if jump.isNone then .ready else .done) jump)) ∧
          (W3.putObj (w.heap.size + 1) (.loop (rec (if jump.isNone then .ready else .done) jump))).heap[w.heap.size]? = some (.deferred (some [])) := fun jump W3 hl3 hk3 => by
        have := run_endRound (P := Tryz.prog) jump hl3
        rw [hrec] at this ⊢
        exact ⟨this, World.putObj_heap_same (Array.getElem?_eq_some_iff.1 hl3).1, (World.putObj_heap_other (by omega)).trans hk3⟩
      rintro e a3 W3 hp
      cases e with
      | normal =>
        obtain ⟨hi3, hl3, hk3⟩ := hp
        obtain ⟨hr, hl4, hk4⟩ := fin none W3 (hl3.trans hl2) (hk3.trans hk2)
        exact ⟨_, _, hr, .inl ⟨rfl, hIp _ _ _ _ hi3 (hl3.trans hl2), hl4, hk4⟩⟩
      | exit i =>
        obtain ⟨rfl, hi3, hl3, hk3⟩ := hp
        obtain ⟨hr, hl4, hk4⟩ := fin (some (.exit i)) W3 (hl3.trans hl2) (hk3.trans hk2)
        exact ⟨_, _, hr, .inr ⟨rfl, hXp _ _ _ hi3 (hl3.trans hl2), hl4, hk4⟩⟩
      | ret => exact hp.elim
      | goto t => exact hp.elim
      | panic ch => exact hp.elim
      | outgrown => exact hp.elim
    · rintro e W2 ⟨⟨v, rfl⟩, (⟨hi, hl, hk⟩ | ⟨hi, hl, hk⟩)⟩
      · exact ⟨none, _, by have := run_endLoop (P := Tryz.prog) hl (by rw [hrec]; simp); rw [hrec] at this; exact this, hdone _ (.inl (hIp _ _ _ _ hi hl)) ((World.putObj_heap_other (by omega)).trans hk)⟩
      · exact ⟨some (.exit id), _, by have := run_endLoop (P := Tryz.prog) hl (by rw [hrec]; simp); rw [hrec] at this; exact this, wpIn_exit (hQ _ _ (hdone _ (.inr (hXp _ _ _ hi hl)) ((World.putObj_heap_other (by omega)).trans hk)))⟩
end Go.Proofs.YtjmdgicdpggljaaGreat.GH
