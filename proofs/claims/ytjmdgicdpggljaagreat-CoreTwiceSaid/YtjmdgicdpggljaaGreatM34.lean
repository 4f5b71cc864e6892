/- Proved: a new function's record, named and laid into the map, leaves the core with one function more. -/
import Derived.Test.YtjmdgicdpggljaaGreatM33
set_option linter.all false
namespace Go.Proofs.YtjmdgicdpggljaaGreat.GH
open Go.RowKit Go.Proofs.YtjmdgicdpggljaaGreat.Histo Go.Proofs.YtjmdgicdpggljaaGreat.Event Go.Proofs.YtjmdgicdpggljaaGreat.Ring
set_option linter.unusedVariables false
open Go.Proofs.YtjmdgicdpggljaaGreat.MapI (AL At Rng W64)
section
variable {w w1 w2 w3 : World} {g : G} {s : Core}

theorem Good.fnNew (gd : Good s) {f : Int} {x : Fn} (hf : 0 ≤ f ∧ f < 64) (hg : x.Good) : Good { s with fns := FM.put s.fns f x } := by
  refine ⟨gd.now, gd.next, gd.toks, fun k y hk => ?_, gd.caches, gd.boxes, gd.til, gd.ans, gd.outs⟩
  have hk2 : FM.get (FM.put s.fns f x) k = some y := hk
  rw [FM.get_put] at hk2
  by_cases e : k = f
  · subst e; rw [if_pos rfl] at hk2; cases hk2
    exact ⟨hf.1, hf.2, hg⟩
  · rw [if_neg e] at hk2; exact gd.fns k y hk2
/-- The names of a new function's three blocks. -/
def gfn (g : G) (f : Int) (pf ph pr : Nat) : G := ((g.set_ (.fn f) pf).set_ (.hist f) ph).set_ (.ring f) pr
theorem gfn_ne {f : Int} {pf ph pr : Nat} {t : Tag} (h1 : t ≠ .fn f) (h2 : t ≠ .hist f) (h3 : t ≠ .ring f) : (gfn g f pf ph pr).ad t = g.ad t := by
  unfold gfn
  rw [G.set_ad_ne _ _ _ _ h3, G.set_ad_ne _ _ _ _ h2, G.set_ad_ne _ _ _ _ h1]
theorem To.newfn (st : St w g s) {f : Int} {x : Fn} (hf : 0 ≤ f ∧ f < 64) (hx : x.Good) (hh : x.hist = Go.Proofs.YtjmdgicdpggljaaGreat.Histo.S.empty) (hr : x.ring = []) (hn : FM.get s.fns f = none) {N : Nat} {pf ph pr : Nat} (hb1 : Below w.heap.size w w1)
    (l1 : w.heap.size ≤ pf) (l2 : w.heap.size ≤ ph) (l3 : w.heap.size ≤ pr) (n1 : pf ≠ ph) (n2 : pf ≠ pr) (n3 : ph ≠ pr)
    (hm : At Tryz.prog 3 w2 (g.ad .fns) N (MapI.put (FM.vals (fun f (_ : Fn) => ptr (g.ad (.fn f))) s.fns) f (ptr pf))) (hg2 : w1.grownBy w2 (some (g.ad .fns))) (hg3 : w2.grownBy w3 (some pf))
    (hk : Blk w3 pf 130 (x.cells ph pr)) (kh : Blk w1 ph 170 Go.Proofs.YtjmdgicdpggljaaGreat.Histo.S.empty.cells) (kr : Rg w1 pr []) :
    To w g s w3 (gfn g f pf ph pr) { s with fns := FM.put s.fns f x } := by
  obtain ⟨ov, m⟩ := st.mem
  have hfl := m.fns.lv.lt
  have z1 : w.heap.size ≤ w1.heap.size := hb1.size
  have st1 : Step (fun t => t = .fns ∨ t = .fn f ∨ t = .hist f ∨ t = .ring f) w g w2 g := (Step.of_below hb1 g _).trans (Step.of_grown hg2 (fun k e => by cases e; exact .inl m.fns.lv.own))
  have z2 : w1.heap.size ≤ w2.heap.size := hg2.size
  have z3 : w2.heap.size ≤ w3.heap.size := hg3.size
  have st2 : Step (fun t => t = .fns ∨ t = .fn f ∨ t = .hist f ∨ t = .ring f) w g w3 g := ⟨hg3.os.trans st1.os, hg3.tape.trans st1.tape, hg3.output.trans st1.output, Nat.le_trans st1.size z3, fun _ _ => rfl, fun p hp hn => by
    rw [← st1.block p hp hn]
    exact hg3.block p (Nat.lt_of_lt_of_le hp st1.size) (fun e => by injection e with e; omega), fun _ _ => rfl⟩
  have st3 : Step (fun t => t = .fns ∨ t = .fn f ∨ t = .hist f ∨ t = .ring f) w g w3 (gfn g f pf ph pr) := ((st2.name (.fn f) pf l1 (.inr (.inl rfl))).name (.hist f) ph l2 (.inr (.inr (.inl rfl)))).name (.ring f) pr l3 (.inr (.inr (.inr rfl)))
  have e1 : (gfn g f pf ph pr).ad (.fn f) = pf := by unfold gfn; rw [G.set_ad_ne _ _ _ _ (by simp), G.set_ad_ne _ _ _ _ (by simp), G.set_ad]
  have e2 : (gfn g f pf ph pr).ad (.hist f) = ph := by unfold gfn; rw [G.set_ad_ne _ _ _ _ (by simp), G.set_ad]
  have e3 : (gfn g f pf ph pr).ad (.ring f) = pr := by unfold gfn; rw [G.set_ad]
  have o1 : (gfn g f pf ph pr).own pf = .fn f := by
    show (if pf = pr then _ else if pf = ph then _ else if pf = pf then _ else _) = _
    rw [if_neg n2, if_neg n1, if_pos rfl]
  have o2 : (gfn g f pf ph pr).own ph = .hist f := by
    show (if ph = pr then _ else if ph = ph then _ else _) = _
    rw [if_neg n3, if_pos rfl]
  have o3 : (gfn g f pf ph pr).own pr = .ring f := by
    show (if pr = pr then _ else _) = _
    rw [if_pos rfl]
  have kh3 : Blk w3 ph 170 Go.Proofs.YtjmdgicdpggljaaGreat.Histo.S.empty.cells := by
    have h1 : w2.heap[ph]? = w1.heap[ph]? := hg2.block ph kh.lt (fun e => by injection e with e; omega)
    have h2 : w3.heap[ph]? = w2.heap[ph]? := hg3.block ph (Nat.lt_of_lt_of_le kh.lt z2) (fun e => by injection e with e; omega)
    exact (h2.trans h1).trans kh
  have kr3 : Rg w3 pr [] := by
    have h1 : w2.heap[pr]? = w1.heap[pr]? := hg2.block pr kr.lt (fun e => by injection e with e; omega)
    have h2 : w3.heap[pr]? = w2.heap[pr]? := hg3.block pr (Nat.lt_of_lt_of_le kr.lt z2) (fun e => by injection e with e; omega)
    exact kr.same (h2.trans h1)
  have hfns : FnsAt w3 (gfn g f pf ph pr) (FM.put s.fns f x) := by
    refine ⟨⟨?_, ?_⟩, ?_, fun k c hk2 => ?_⟩
    · rw [gfn_ne (by simp) (by simp) (by simp)]
      show (if g.ad .fns = pr then _ else if g.ad .fns = ph then _ else if g.ad .fns = pf then _ else _) = _
      rw [if_neg (by omega), if_neg (by omega), if_neg (by omega)]
      exact m.fns.lv.own
    · rw [gfn_ne (by simp) (by simp) (by simp)]
      exact Nat.lt_of_lt_of_le hfl st2.size
    · rw [gfn_ne (by simp) (by simp) (by simp)]
      have hp := put_turn (f := fun f (_ : Fn) => ptr (g.ad (.fn f))) (f' := fun k (_ : Fn) => ptr ((gfn g f pf ph pr).ad (.fn k))) (l := s.fns) (k := f) (a := x) (fun k _ hk => by rw [gfn_ne (by simp [hk]) (by simp) (by simp)])
      simp only [e1] at hp
      have hm3 := Mp.of hm
      rw [hp] at hm3
      have : w3.heap[g.ad .fns]? = w2.heap[g.ad .fns]? := hg3.block _ (by omega) (fun e => by injection e with e; omega)
      exact hm3.same this
    · rw [FM.get_put] at hk2
      by_cases e : k = f
      · subst e; rw [if_pos rfl] at hk2; cases hk2
        refine ⟨⟨⟨by rw [e1]; exact o1, by rw [e1]; exact hk.lt⟩, by rw [e1, e2, e3]; exact hk⟩, ⟨⟨by rw [e2]; exact o2, by rw [e2]; exact kh3.lt⟩, by rw [e2, hh]; exact kh3⟩, by rw [hh]; exact Histo.Ok.none, ⟨by rw [e3]; exact o3, by rw [e3]; exact kr3.lt⟩, by rw [e3, hr]; exact kr3⟩
      · rw [if_neg e] at hk2
        exact (m.fns.each k c hk2).step st3 (by simp [e]) (by simp [e]) (by simp [e])
  refine To.of (m.turn st3 { s with fns := FM.put s.fns f x } ov (fun t ht => gfn_ne (by rintro rfl; exact ht) (by rintro rfl; exact ht) (by rintro rfl; exact ht)) (fns := .inr hfns)) (st.good.fnNew hf hx) st3 (by simp) (fun t ht => ?_) (fun t ht => ?_)
  · have hnf : ∀ k, k = f → ¬ (FM.get s.fns k).isSome = true := fun k e => by rw [e, hn]; simp
    exact gfn_ne (by rintro rfl; exact hnf _ rfl ht) (by rintro rfl; exact hnf _ rfl ht) (by rintro rfl; exact hnf _ rfl ht)
  · cases t <;> first | exact ht | exact kept_put ht
end
end Go.Proofs.YtjmdgicdpggljaaGreat.GH

/- Proved: what core's function leaves. -/
namespace Go.Proofs.YtjmdgicdpggljaaGreat.GH
open Go.RowKit Go.Maps Go.Sort Go.Shelf Go.Proofs.YtjmdgicdpggljaaGreat.Histo Go.Proofs.YtjmdgicdpggljaaGreat.Event Go.Proofs.YtjmdgicdpggljaaGreat.Ring
set_option linter.unusedVariables false
open Go.Proofs.YtjmdgicdpggljaaGreat.MapI (W64)
attribute [local go_sem] Oper.semAt_some

theorem fun_err {s s' : Core} {e : Ev} {k r : Int} (h : s.function1 e = (k, s)) (hk : k ≠ 0) (hs : s.function e = some (r, s')) : r = k ∧ s' = s := by
  unfold Core.function at hs
  rw [h, if_pos hk] at hs
  cases hs
  exact ⟨rfl, rfl⟩
theorem fun_go {s s1 s' : Core} {e : Ev} {r : Int} (h : s.function1 e = (0, s1)) (hs : s.function e = some (r, s')) : r = 0 ∧ s1.keep e.n = some s' := by
  unfold Core.function at hs
  rw [h, if_neg (by simp)] at hs
  simp only at hs
  split at hs
  · cases hs
  · next t ht => cases hs; exact ⟨rfl, ht⟩
theorem setFunc_no {q : Quota} {k x l : Int} (e : (q.setFunc k x l).1 ≠ 0) : (q.setFunc k x l).2 = q := by
  unfold Quota.setFunc at e ⊢
  repeat' split
  all_goals first | rfl | skip
  next h1 h2 h3 h4 => rw [if_neg h1, if_neg h2, if_neg h3, if_neg h4] at e; exact absurd rfl e
def fmis (s : Core) (n ac me : Int) : Bool := match FM.get s.fns n with | some x => x.acc != ac || x.mem != me | none => false
def fput (s : Core) (n ac me co ke : Int) : FM Fn := match FM.get s.fns n with
  | some x => FM.put s.fns n { x with cost := co, keep := ke }
  | none => FM.put s.fns n ⟨ac, me, co, ke, 0, -1, 0, Histo.S.empty, []⟩
theorem function1_eq (s : Core) (k n lim sz rf ac me co re ke : Int) : s.function1 ⟨k, n, lim, sz, rf, ac, me, co, re, ke⟩ =
    if 64 ≤ n ∨ 16 ≤ ac ∨ 1000 < re ∨ 1000 < ke ∨ me < 1 ∨ 4096 < me ∨ co < 1 ∨ 1000 < co then (1, s)
    else if (FM.get s.toks ac).isSome = false then (2, s)
    else if fmis s n ac me = true then (3, s)
    else if 0 < re ∧ re < ke then (4, s)
    else if (s.quota.setFunc n ac re).1 ≠ 0 then ((s.quota.setFunc n ac re).1, s)
    else (0, { s with quota := (s.quota.setFunc n ac re).2, fns := fput s n ac me co ke }) := rfl
/-- A new histogram and a new ring, nobody's as yet. -/
structure NP (wz wF : World) (ph pr : Nat) : Prop where
  below : Below wz.heap.size wz wF
  l1 : wz.heap.size ≤ ph
  l2 : wz.heap.size ≤ pr
  ne : ph ≠ pr
  kh : Blk wF ph 170 Histo.S.empty.cells
  kr : Rg wF pr []
theorem news_hr (wa : World) (S : World → Prop) (hS : ∀ W, Below wa.heap.size wa W → S W) (m : Nat) : Calls Tryz.prog 48 #[] (wa.drewN m) fun e wh => e = .returned (vptr wa.heap.size) ∧ S wh ∧ ∀ m', Calls Tryz.prog 49 #[] (wh.drewN m') fun e wF => e = .returned (vptr (wa.heap.size + 1)) ∧ S wF ∧ NP wa wF wa.heap.size (wa.heap.size + 1) := by
  refine (Histo.new_any (wa.drewN m)).mono ?_
  rintro e wh ⟨rfl, hwh⟩
  have hb1 : Below wa.heap.size wa wh := by rw [hwh]; exact (below_drewN (Below.refl _ wa) m).alloc (Nat.le_refl _) _
  have hs1 : wh.heap.size = wa.heap.size + 1 := by rw [hwh, World.size_alloc]; rfl
  have hk1 : Blk wh wa.heap.size 170 Histo.S.empty.cells := by rw [hwh]; exact Blk.new (wa.drewN m) _ _
  refine ⟨rfl, hS _ hb1, fun m' => ?_⟩
  refine (Ring.new_any (wh.drewN m')).mono ?_
  rintro e wF ⟨rfl, hwF⟩
  have hb2 : Below wh.heap.size wh wF := by rw [hwF]; exact (below_drewN (Below.refl _ wh) m').alloc (Nat.le_refl _) _
  have hk2 : Rg wF wh.heap.size [] := by rw [hwF]; exact Ring.new_rg (wh.drewN m')
  have e1 : (wh.drewN m').heap.size = wa.heap.size + 1 := hs1
  rw [e1]
  rw [hs1] at hk2
  have hb3 := below_step hb1 hb2
  exact ⟨rfl, hS _ hb3, ⟨hb3, Nat.le_refl _, Nat.le_succ _, by omega, hk1.below hb2 hk1.lt, hk2⟩⟩
theorem news_rh (wa : World) (S : World → Prop) (hS : ∀ W, Below wa.heap.size wa W → S W) (m : Nat) : Calls Tryz.prog 49 #[] (wa.drewN m) fun e wh => e = .returned (vptr wa.heap.size) ∧ S wh ∧ ∀ m', Calls Tryz.prog 48 #[] (wh.drewN m') fun e wF => e = .returned (vptr (wa.heap.size + 1)) ∧ S wF ∧ NP wa wF (wa.heap.size + 1) wa.heap.size := by
  refine (Ring.new_any (wa.drewN m)).mono ?_
  rintro e wh ⟨rfl, hwh⟩
  have hb1 : Below wa.heap.size wa wh := by rw [hwh]; exact (below_drewN (Below.refl _ wa) m).alloc (Nat.le_refl _) _
  have hs1 : wh.heap.size = wa.heap.size + 1 := by rw [hwh, World.size_alloc]; rfl
  have hk1 : Rg wh wa.heap.size [] := by rw [hwh]; exact Ring.new_rg (wa.drewN m)
  refine ⟨rfl, hS _ hb1, fun m' => ?_⟩
  refine (Histo.new_any (wh.drewN m')).mono ?_
  rintro e wF ⟨rfl, hwF⟩
  have hb2 : Below wh.heap.size wh wF := by rw [hwF]; exact (below_drewN (Below.refl _ wh) m').alloc (Nat.le_refl _) _
  have hk2 : Blk wF wh.heap.size 170 Histo.S.empty.cells := by rw [hwF]; exact Blk.new (wh.drewN m') _ _
  have e1 : (wh.drewN m').heap.size = wa.heap.size + 1 := hs1
  rw [e1]
  rw [hs1] at hk2
  have hb3 := below_step hb1 hb2
  exact ⟨rfl, hS _ hb3, ⟨hb3, Nat.le_succ _, Nat.le_refl _, by omega, hk2, hk1.below hb2 hk1.lt⟩⟩
theorem NP.box {wa wF : World} {ph pr : Nat} (h : NP wa wF ph pr) (k : Nat) (cs : Array Value) : ∃ pf ph' pr', vptr wF.heap.size = vptr pf ∧ ph' = ph ∧ pr' = pr ∧ NP wa ((wF.drewN k).alloc (.cells cs 130)) ph' pr' ∧ pf ≠ ph' ∧ pf ≠ pr' ∧ wa.heap.size ≤ pf ∧ Blk ((wF.drewN k).alloc (.cells cs 130)) pf 130 cs := by
  have hb : Below wF.heap.size wF ((wF.drewN k).alloc (.cells cs 130)) := (below_drewN (Below.refl _ wF) k).alloc (Nat.le_refl _) _
  have h1 := h.kh.lt
  have h2 := h.kr.lt
  exact ⟨wF.heap.size, ph, pr, rfl, rfl, rfl, ⟨below_step h.below hb, h.l1, h.l2, h.ne, h.kh.below hb h1, h.kr.below hb h2⟩, by omega, by omega, h.below.size, Blk.new (wF.drewN k) _ _⟩
set_option maxRecDepth 100000 in
set_option maxHeartbeats 16000000 in
theorem function_fresh {w : World} {g : G} {s s' : Core} {p : Nat} {e : Ev} {r : Int} (hfr : ∀ k, w.heap.size ≤ k → g.own k = .none) (st : St w g s) (hp : g.ad .core = p) (hen : 0 ≤ e.n ∧ e.n ≤ 2147483647) (hea : 0 ≤ e.acct) (hek : 0 ≤ e.keep) (hs : s.function e = some (r, s')) : Calls Tryz.prog 23 #[vptr p, e.val] w (Post (.int .i64 r) w g s s') := by
  obtain ⟨k, n, lim, sz, rf, ac, me, co, re, ke⟩ := e
  simp only at hen hea hek
  unfold Ev.val
  simp only
  obtain ⟨qm, hqm⟩ : ∃ t, g.ad .quota = t := ⟨_, rfl⟩
  obtain ⟨tm, htm⟩ : ∃ t, g.ad .toks = t := ⟨_, rfl⟩
  obtain ⟨fm, hfm⟩ : ∃ t, g.ad .fns = t := ⟨_, rfl⟩
  have wn : W64 n := MapI.w64 (by omega) (by omega)
  have hb1 := (Below.refl w.heap.size w).alloc (Nat.le_refl _) (.cells #[.int .i64 k, .int .i64 n, .int .i64 lim, .int .i64 sz, .int .i64 rf, .int .i64 ac, .int .i64 me, .int .i64 co, .int .i64 re, .int .i64 ke] 28)
  have hbk := Blk.new w 28 #[.int .i64 k, .int .i64 n, .int .i64 lim, .int .i64 sz, .int .i64 rf, .int .i64 ac, .int .i64 me, .int .i64 co, .int .i64 re, .int .i64 ke]
  have hst1 := st.below hb1
  have c4 := hst1.fns hp hfm
  have hlk := fun m => fns_look (hst1.drewN m) wn hfm
  obtain ⟨xv, hxv⟩ : ∃ v, v = ((FM.get s.fns n).map (fun _ => vptr (g.ad (.fn n)))).getD (.pointer none) := ⟨_, rfl⟩
  rw [← hxv] at hlk
  have HXV := Lib.hid hxv
  have HS := Lib.hid hs
  have HP := Lib.hid (And.intro hp (And.intro hqm (And.intro htm hfm)))
  have HST := Lib.hid st
  have HFR := Lib.hid hfr
  have HNN := Lib.hid hen
  have HKE := Lib.hid hek
  have HAC := Lib.hid hea
  clear st hs hp hqm htm hfm hfr hst1 hxv wn hen hek hea
  go_enter Tryz.func23, Tryz.ntmps23
  go_upto_region 1 with (fail)
  generalize w.alloc (.cells #[.int .i64 k, .int .i64 n, .int .i64 lim, .int .i64 sz, .int .i64 rf, .int .i64 ac, .int .i64 me, .int .i64 co, .int .i64 re, .int .i64 ke] 28) = w1 at hb1 hbk c4 hlk ⊢
  have e1 : w1.cell? ⟨w.heap.size, 1, none⟩ = some (.int .i64 n) := hbk.cell 1
  obtain ⟨B, hB⟩ : ∃ B, B = w.heap.size := ⟨_, rfl⟩
  rw [← hB] at hbk e1 ⊢
  have HB1 := Lib.hid hb1
  have HBK1 := Lib.hid hbk
  have HBE := Lib.hid hB
  clear hb1 hbk hB
  go_quiet (fail)
  have HT := Lib.hid ((To.below HST.out HB1.out).drewN nq)
  have HBK := Lib.hid (HBK1.out.drewN nq)
  clear e1 c4 hlk HB1 HBK1
  generalize w1.drewN nq = w2 at HT HBK ⊢
  have e1 : w2.cell? ⟨B, 1, none⟩ = some (.int .i64 n) := HBK.out.cell 1
  have e5 : w2.cell? ⟨B, 5, none⟩ = some (.int .i64 ac) := HBK.out.cell 5
  have e6 : w2.cell? ⟨B, 6, none⟩ = some (.int .i64 me) := HBK.out.cell 6
  have e7 : w2.cell? ⟨B, 7, none⟩ = some (.int .i64 co) := HBK.out.cell 7
  have e8 : w2.cell? ⟨B, 8, none⟩ = some (.int .i64 re) := HBK.out.cell 8
  have e9 : w2.cell? ⟨B, 9, none⟩ = some (.int .i64 ke) := HBK.out.cell 9
  have hxcase : (FM.get s.fns n = none ∧ xv = .pointer none) ∨ ∃ x fq, FM.get s.fns n = some x ∧ g.ad (.fn n) = fq ∧ xv = vptr fq := by
    have h := HXV.out
    cases hx : FM.get s.fns n with
    | none => rw [hx] at h; exact .inl ⟨rfl, h⟩
    | some x => rw [hx] at h; exact .inr ⟨x, _, rfl, rfl, h⟩
  have HXC := Lib.hid hxcase
  clear hxcase
  go_upto_block 0 with fail
  go_cut [] (fun wx => (∃ m, wx = w2.drewN m) ∧ ¬ (64 ≤ n ∨ 16 ≤ ac ∨ 1000 < re ∨ 1000 < ke ∨ me < 1 ∨ 4096 < me ∨ co < 1 ∨ 1000 < co) ∧ (FM.get s.toks ac).isSome = true ∧ fmis s n ac me = false ∧ ¬ (0 < re ∧ re < ke))
  case first =>
    by_cases t0 : 64 ≤ n
    · have d0 : decide (64 ≤ n) = true := decide_eq_true t0
      obtain ⟨rfl, rfl⟩ := fun_err (k := 1) (by rw [function1_eq]; exact if_pos (.inl t0)) (by decide) HS.out
      clear t0
      go_wp2
      go_ret
      exact ⟨rfl, g, HT.out⟩
    have d0 : decide (64 ≤ n) = false := decide_eq_false t0
    by_cases t1 : 16 ≤ ac
    · have d1 : decide (16 ≤ ac) = true := decide_eq_true t1
      obtain ⟨rfl, rfl⟩ := fun_err (k := 1) (by rw [function1_eq]; exact if_pos (.inr (.inl t1))) (by decide) HS.out
      clear t1
      go_wp2
      go_ret
      exact ⟨rfl, g, HT.out⟩
    have d1 : decide (16 ≤ ac) = false := decide_eq_false t1
    by_cases t2 : 1000 < re
    · have d2 : decide (1000 < re) = true := decide_eq_true t2
      obtain ⟨rfl, rfl⟩ := fun_err (k := 1) (by rw [function1_eq]; exact if_pos (.inr (.inr (.inl t2)))) (by decide) HS.out
      clear t2
      go_wp2
      go_ret
      exact ⟨rfl, g, HT.out⟩
    have d2 : decide (1000 < re) = false := decide_eq_false t2
    by_cases t3 : 1000 < ke
    · have d3 : decide (1000 < ke) = true := decide_eq_true t3
      obtain ⟨rfl, rfl⟩ := fun_err (k := 1) (by rw [function1_eq]; exact if_pos (.inr (.inr (.inr (.inl t3))))) (by decide) HS.out
      clear t3
      go_wp2
      go_ret
      exact ⟨rfl, g, HT.out⟩
    have d3 : decide (1000 < ke) = false := decide_eq_false t3
    by_cases t4 : me < 1
    · have d4 : decide (me < 1) = true := decide_eq_true t4
      obtain ⟨rfl, rfl⟩ := fun_err (k := 1) (by rw [function1_eq]; exact if_pos (.inr (.inr (.inr (.inr (.inl t4)))))) (by decide) HS.out
      clear t4
      go_wp2
      go_ret
      exact ⟨rfl, g, HT.out⟩
    have d4 : decide (me < 1) = false := decide_eq_false t4
    by_cases t5 : 4096 < me
    · have d5 : decide (4096 < me) = true := decide_eq_true t5
      obtain ⟨rfl, rfl⟩ := fun_err (k := 1) (by rw [function1_eq]; exact if_pos (.inr (.inr (.inr (.inr (.inr (.inl t5))))))) (by decide) HS.out
      clear t5
      go_wp2
      go_ret
      exact ⟨rfl, g, HT.out⟩
    have d5 : decide (4096 < me) = false := decide_eq_false t5
    by_cases t6 : co < 1
    · have d6 : decide (co < 1) = true := decide_eq_true t6
      obtain ⟨rfl, rfl⟩ := fun_err (k := 1) (by rw [function1_eq]; exact if_pos (.inr (.inr (.inr (.inr (.inr (.inr (.inl t6)))))))) (by decide) HS.out
      clear t6
      go_wp2
      go_ret
      exact ⟨rfl, g, HT.out⟩
    have d6 : decide (co < 1) = false := decide_eq_false t6
    by_cases t7 : 1000 < co
    · have d7 : decide (1000 < co) = true := decide_eq_true t7
      obtain ⟨rfl, rfl⟩ := fun_err (k := 1) (by rw [function1_eq]; exact if_pos (.inr (.inr (.inr (.inr (.inr (.inr (.inr (t7))))))))) (by decide) HS.out
      clear t7
      go_wp2
      go_ret
      exact ⟨rfl, g, HT.out⟩
    have d7 : decide (1000 < co) = false := decide_eq_false t7
    have hlim : ¬ (64 ≤ n ∨ 16 ≤ ac ∨ 1000 < re ∨ 1000 < ke ∨ me < 1 ∨ 4096 < me ∨ co < 1 ∨ 1000 < co) := by omega
    have HL := Lib.hid hlim
    clear t0 t1 t2 t3 t4 t5 t6 t7 hlim
    have wa : W64 ac := MapI.w64 (by have := HAC.out; omega) (by have := HL.out; omega)
    have hlk := fun m => (HT.out.st.drewN m).tokLook wa HP.out.2.2.1
    have c3 := HT.out.st.toks HP.out.1 HP.out.2.2.1
    clear wa
    cases hk : FM.get s.toks ac with
    | none =>
      rw [hk] at hlk
      simp only [Option.map_none, Option.getD_none] at hlk
      obtain ⟨rfl, rfl⟩ := fun_err (k := 2) (by rw [function1_eq, if_neg HL.out, hk]; rfl) (by decide) HS.out
      clear hk
      go_wp2
      go_quiet (fail)
      go_wp2
      go_ret
      exact ⟨rfl, g, by first | exact HT.out.drewN _ | exact (HT.out.drewN _).drewN _⟩
    | some kb =>
      rw [hk] at hlk
      simp only [Option.map_some, Option.getD_some] at hlk
      obtain ⟨tq, htq⟩ : ∃ q, q = g.ad (.tok ac) := ⟨_, rfl⟩
      rw [← htq] at hlk
      have HTK : Hid ((FM.get s.toks ac).isSome = true) := Lib.hid (by rw [hk]; rfl)
      clear hk htq
      go_wp2
      go_quiet (fail)
      clear hlk c3
      rcases HXC.out with ⟨hx, rfl⟩ | ⟨x, fq, hx, hfq, rfl⟩
      · have HMM : Hid (fmis s n ac me = false) := Lib.hid (by unfold fmis; rw [hx])
        clear hx
        go_wp2
        go_quiet (fail)
        by_cases t8 : 0 < re
        · have d8 : decide (0 < re) = true := decide_eq_true t8
          by_cases t9 : re < ke
          · have d9 : decide (re < ke) = true := decide_eq_true t9
            obtain ⟨rfl, rfl⟩ := fun_err (k := 4) (by rw [function1_eq, if_neg HL.out, if_neg (by rw [HTK.out]; simp), if_neg (by rw [HMM.out]; simp), if_pos ⟨t8, t9⟩]) (by decide) HS.out
            clear t8 t9
            go_wp2
            go_ret
            exact ⟨rfl, g, by first | exact HT.out.drewN _ | exact (HT.out.drewN _).drewN _⟩
          · have d9 : decide (re < ke) = false := decide_eq_false t9
            have HF9 : Hid (¬ (0 < re ∧ re < ke)) := Lib.hid (fun h => t9 h.2)
            clear t8 t9
            go_wp2
            go_meet
            exact ⟨⟨_, rfl⟩, HL.out, HTK.out, HMM.out, HF9.out⟩
        · have d8 : decide (0 < re) = false := decide_eq_false t8
          have HF9 : Hid (¬ (0 < re ∧ re < ke)) := Lib.hid (fun h => t8 h.1)
          clear t8
          go_wp2
          go_meet
          exact ⟨⟨_, rfl⟩, HL.out, HTK.out, HMM.out, HF9.out⟩
      · have k0 := (HT.out.st.fnBlk hx hfq).cell 0
        have k1 := (HT.out.st.fnBlk hx hfq).cell 1
        simp only [Fn.cells, List.getElem?_toArray] at k0 k1
        simp at k0 k1
        obtain ⟨xa, hxa⟩ : ∃ y, y = x.acc := ⟨_, rfl⟩
        obtain ⟨xm, hxm⟩ : ∃ y, y = x.mem := ⟨_, rfl⟩
        rw [← hxa] at k0
        rw [← hxm] at k1
        by_cases ta : xa = ac
        · have da : (xa != ac) = false := by simpa using ta
          have db : (xa == ac) = true := by simpa using ta
          by_cases tb : xm = me
          · have da2 : (xm != me) = false := by simpa using tb
            have db2 : (xm == me) = true := by simpa using tb
            have HMM : Hid (fmis s n ac me = false) := Lib.hid (by unfold fmis; rw [hx]; simp only; rw [← hxa, ← hxm, da, da2]; rfl)
            clear hx hfq hxa hxm ta tb
            go_wp2
            go_quiet (fail)
            by_cases t8 : 0 < re
            · have d8 : decide (0 < re) = true := decide_eq_true t8
              by_cases t9 : re < ke
              · have d9 : decide (re < ke) = true := decide_eq_true t9
                obtain ⟨rfl, rfl⟩ := fun_err (k := 4) (by rw [function1_eq, if_neg HL.out, if_neg (by rw [HTK.out]; simp), if_neg (by rw [HMM.out]; simp), if_pos ⟨t8, t9⟩]) (by decide) HS.out
                clear t8 t9
                go_wp2
                go_ret
                exact ⟨rfl, g, by first | exact HT.out.drewN _ | exact (HT.out.drewN _).drewN _⟩
              · have d9 : decide (re < ke) = false := decide_eq_false t9
                have HF9 : Hid (¬ (0 < re ∧ re < ke)) := Lib.hid (fun h => t9 h.2)
                clear t8 t9
                go_wp2
                go_meet
                exact ⟨⟨_, rfl⟩, HL.out, HTK.out, HMM.out, HF9.out⟩
            · have d8 : decide (0 < re) = false := decide_eq_false t8
              have HF9 : Hid (¬ (0 < re ∧ re < ke)) := Lib.hid (fun h => t8 h.1)
              clear t8
              go_wp2
              go_meet
              exact ⟨⟨_, rfl⟩, HL.out, HTK.out, HMM.out, HF9.out⟩
          · have da2 : (xm != me) = true := by simpa using tb
            have db2 : (xm == me) = false := by simpa using tb
            obtain ⟨rfl, rfl⟩ := fun_err (k := 3) (by rw [function1_eq, if_neg HL.out, if_neg (by rw [HTK.out]; simp), if_pos (by unfold fmis; rw [hx]; simp only; rw [← hxa, ← hxm, da, da2]; rfl)]) (by decide) HS.out
            clear hx hfq hxa hxm ta tb
            go_wp2
            go_quiet (fail)
            go_wp2
            go_ret
            exact ⟨rfl, g, by first | exact HT.out.drewN _ | exact (HT.out.drewN _).drewN _⟩
        · have da : (xa != ac) = true := by simpa using ta
          have db : (xa == ac) = false := by simpa using ta
          obtain ⟨rfl, rfl⟩ := fun_err (k := 3) (by rw [function1_eq, if_neg HL.out, if_neg (by rw [HTK.out]; simp), if_pos (by unfold fmis; rw [hx]; simp only; rw [← hxa, da]; rfl)]) (by decide) HS.out
          clear hx hfq hxa hxm ta
          go_wp2
          go_quiet (fail)
          go_wp2
          go_ret
          exact ⟨rfl, g, by first | exact HT.out.drewN _ | exact (HT.out.drewN _).drewN _⟩
  case rest =>
    obtain ⟨⟨m, rfl⟩, hl, htk, hmm, hf9⟩ := hcut
    have HT2 := Lib.hid (HT.out.drewN m)
    have HBK2 := Lib.hid (HBK.out.drewN m)
    have HF1 : Hid (s.function1 ⟨k, n, lim, sz, rf, ac, me, co, re, ke⟩ = (if (s.quota.setFunc n ac re).1 ≠ 0 then ((s.quota.setFunc n ac re).1, s)
        else (0, { s with quota := (s.quota.setFunc n ac re).2, fns := fput s n ac me co ke }))) := Lib.hid (by
      rw [function1_eq, if_neg hl, if_neg (by rw [htk]; simp), if_neg (by rw [hmm]; simp), if_neg hf9])
    have HLIM := Lib.hid hl
    clear hl htk hmm hf9 e1 e5 e6 e7 e8 e9
    generalize w2.drewN m = w3 at HT2 HBK2 ⊢
    have e1 : w3.cell? ⟨B, 1, none⟩ = some (.int .i64 n) := HBK2.out.cell 1
    have e5 : w3.cell? ⟨B, 5, none⟩ = some (.int .i64 ac) := HBK2.out.cell 5
    have e8 : w3.cell? ⟨B, 8, none⟩ = some (.int .i64 re) := HBK2.out.cell 8
    have c2 := HT2.out.st.quota HP.out.1 HP.out.2.1
    have hown : g.own B = .none := HFR.out _ (by rw [HBE.out]; exact Nat.le_refl _)
    obtain ⟨dr, hdr⟩ : ∃ b, b = s.quota.setFunc n ac re := ⟨_, rfl⟩
    have HSF : Hid (Calls Tryz.prog 47 #[vptr qm, .int .i64 n, .int .i64 ac, .int .i64 re] w3.drew fun e wa => e = .returned (.int .i64 dr.1) ∧ To w g s wa g { s with quota := dr.2 } ∧ Blk wa B 28 #[.int .i64 k, .int .i64 n, .int .i64 lim, .int .i64 sz, .int .i64 rf, .int .i64 ac, .int .i64 me, .int .i64 co, .int .i64 re, .int .i64 ke]) := Lib.hid (by
      have hd := setFunc_use HT2.out.st.drew HP.out.2.1 n ac re
      rw [← hdr] at hd
      refine hd.mono ?_
      rintro e wa ⟨he, h2⟩
      exact ⟨he, HT2.out.drew.trans h2.all, h2.all.blk HBK2.out.drew hown⟩)
    have HNO : Hid (dr.1 ≠ 0 → dr.2 = s.quota) := Lib.hid (by rw [hdr]; exact setFunc_no)
    have hf1 := HF1.out
    rw [← hdr] at hf1
    have HF2 := Lib.hid hf1
    have HOWN := Lib.hid hown
    clear hf1 hdr hown
    obtain ⟨d1, d2⟩ := dr
    simp only at HSF HNO HF2
    go_wp2
    go_still_tail 10, (by kernel_rfl)
    change wpList _ _ _ _ _ w3.drew
    by_cases hd : d1 = 0
    · subst hd
      have hf2 := HF2.out
      rw [if_neg (by simp)] at hf2
      obtain ⟨rfl, hkp⟩ := fun_go hf2 HS.out
      simp only at hkp
      have HKP := Lib.hid hkp
      clear hf2 hkp
      rcases HXC.out with ⟨hx, rfl⟩ | ⟨x, fq, hx, hfq, rfl⟩
      · have HX := Lib.hid hx
        clear hx
        go_wp2_with (go_at_call 47; refine HSF.out.mono ?_; rintro e wa ⟨rfl, hta, hba⟩; have HTA := Lib.hid hta; have HBA := Lib.hid hba; clear hta hba)
        have hbl : B < wa.heap.size := HBA.out.lt
        have hS : ∀ W, Below wa.heap.size wa W → (W.cell? ⟨B, 5, none⟩ = some (.int .i64 ac) ∧ W.cell? ⟨B, 6, none⟩ = some (.int .i64 me)) := fun W hW => ⟨(hW.cell (p := ⟨B, 5, none⟩) hbl).trans (HBA.out.cell 5), (hW.cell (p := ⟨B, 6, none⟩) hbl).trans (HBA.out.cell 6)⟩
        have HH0 := Lib.hid (news_hr wa _ hS)
        have HR0 := Lib.hid (news_rh wa _ hS)
        obtain ⟨s5, s6⟩ := hS wa (Below.refl _ _)
        have HBL := Lib.hid hbl
        clear hbl hS
        go_cut [5] (fun v wx => ∃ pf ph pr, v = vptr pf ∧ NP wa wx ph pr ∧ pf ≠ ph ∧ pf ≠ pr ∧ wa.heap.size ≤ pf ∧ Blk wx pf 130 #[.int .i64 ac, .int .i64 me, .int .i64 0, .int .i64 0, .int .i64 0, .int .i64 (-1), .int .i64 0, ptr ph, ptr pr])
        case first =>
          go_region_held3 (fun W => W.cell? ⟨B, 5, none⟩ = some (.int .i64 ac) ∧ W.cell? ⟨B, 6, none⟩ = some (.int .i64 me))
            (first | assumption | (refine ⟨?_, ?_⟩ <;> first | assumption | go_keep))
            (first
              | (go_at_call 48; first
                  | (refine (HNX.out 0).mono ?_; rintro e wF ⟨rfl, hs2, hfin⟩; have HNP := Lib.hid hfin; clear hfin)
                  | (refine (HNX.out _).mono ?_; rintro e wF ⟨rfl, hs2, hfin⟩; have HNP := Lib.hid hfin; clear hfin)
                  | (refine (HH0.out _).mono ?_; rintro e wh ⟨rfl, hs1, hnx⟩; have HNX := Lib.hid hnx; clear hnx))
              | (go_at_call 49; first
                  | (refine (HNX.out 0).mono ?_; rintro e wF ⟨rfl, hs2, hfin⟩; have HNP := Lib.hid hfin; clear hfin)
                  | (refine (HNX.out _).mono ?_; rintro e wF ⟨rfl, hs2, hfin⟩; have HNP := Lib.hid hfin; clear hfin)
                  | (refine (HR0.out _).mono ?_; rintro e wh ⟨rfl, hs1, hnx⟩; have HNX := Lib.hid hnx; clear hnx)))
          all_goals
            go_wp2_with fail
            go_meet
            obtain ⟨pf, ph, pr, q1, q2, q3, q4⟩ := HNP.out.box 0 #[.int .i64 ac, .int .i64 me, .int .i64 0, .int .i64 0, .int .i64 0, .int .i64 (-1), .int .i64 0, ptr _, ptr _]
            subst q2 q3
            exact ⟨pf, _, _, q1, q4.1, q4.2.1, q4.2.2.1, q4.2.2.2.1, q4.2.2.2.2⟩
        case rest =>
          obtain ⟨pf, ph, pr, rfl, hnp, n1, n2, l1, hfb⟩ := hcut
          have hst := HTA.out.st
          obtain ⟨ov, mm⟩ := hst.mem
          have hfml : fm < wa.heap.size := by rw [← HP.out.2.2.2]; exact mm.fns.lv.lt
          have hmx : (FM.vals (fun f (_ : Fn) => ptr (g.ad (.fn f))) s.fns).length < maxLen := by
            have := FM.length_le (n := 64) mm.fns.sorted (fun q hq => by have := hst.good.fns q.1 q.2 (FM.get_of_mem mm.fns.sorted hq); exact ⟨this.1, this.2.1⟩)
            rw [FM.length_vals]; unfold maxLen
            have h2 : (s.fns.length : Nat) ≤ 64 := this
            omega
          have hmap0 := mm.fns.map
          rw [HP.out.2.2.2] at hmap0
          have hbd := below_drewN hnp.below 1
          obtain ⟨w5, hrun, hm5, hg5, hs5⟩ := MapI.At.store (w := wc.drew) (t := 48) (MapI.At.same hmap0 (hbd.block fm hfml)) (by kernel_rfl) Tryz.underlying48 hmx (MapI.w64 (x := n) (by have := HNN.out; omega) (by have := HNN.out; omega)) (vptr pf)
          have hBB : Blk wc B 28 #[.int .i64 k, .int .i64 n, .int .i64 lim, .int .i64 sz, .int .i64 rf, .int .i64 ac, .int .i64 me, .int .i64 co, .int .i64 re, .int .i64 ke] := HBA.out.below hnp.below HBL.out
          have hne1 : B ≠ fm := by
            rintro rfl
            have h1 := mm.fns.lv.own
            rw [HP.out.2.2.2, HOWN.out] at h1
            cases h1
          have hB5 : Blk w5 B 28 #[.int .i64 k, .int .i64 n, .int .i64 lim, .int .i64 sz, .int .i64 rf, .int .i64 ac, .int .i64 me, .int .i64 co, .int .i64 re, .int .i64 ke] := (hg5.block B hBB.lt (fun e => hne1 (by injection e))).trans hBB.drew
          have hpf5 := (hg5.block pf hfb.lt (fun e => by injection e with e; omega)).trans hfb.drew
          have hpf5 : Blk w5 pf 130 #[.int .i64 ac, .int .i64 me, .int .i64 0, .int .i64 0, .int .i64 0, .int .i64 (-1), .int .i64 0, ptr ph, ptr pr] := hpf5
          have c4 : wc.cell? ⟨p, 4, none⟩ = some (.map (some fm)) := (hnp.below.cell (p := ⟨p, 4, none⟩) (by rw [← HP.out.1]; exact mm.core.lv.lt)).trans (hst.fns HP.out.1 HP.out.2.2.2)
          have e1 : wc.cell? ⟨B, 1, none⟩ = some (.int .i64 n) := hBB.cell 1
          have e7 : w5.cell? ⟨B, 7, none⟩ = some (.int .i64 co) := hB5.cell 7
          have e9 : w5.cell? ⟨B, 9, none⟩ = some (.int .i64 ke) := hB5.cell 9
          have f2 : w5.cell? ⟨pf, 2, none⟩ = some (.int .i64 0) := hpf5.cell 2
          have f3 : w5.cell? ⟨pf, 3, none⟩ = some (.int .i64 0) := hpf5.cell 3
          have z2 := hpf5.frozen 2
          have z3 := hpf5.frozen 3
          have hnB : B ≠ pf := by have := HBL.out; omega
          have hgo : To w g s ((w5.setCell ⟨pf, 2, none⟩ (.int .i64 co)).setCell ⟨pf, 3, none⟩ (.int .i64 ke)) (gfn g n pf ph pr) { s with quota := d2, fns := FM.put s.fns n ⟨ac, me, co, ke, 0, -1, 0, Histo.S.empty, []⟩ } := by
            have hl := HLIM.out
            have h0 := HNN.out
            have ha := HAC.out
            have hk := HKE.out
            have hg3 : w5.grownBy ((w5.setCell ⟨pf, 2, none⟩ (.int .i64 co)).setCell ⟨pf, 3, none⟩ (.int .i64 ke)) (some pf) := only_setCell (only_setCell (only_refl _ (some pf)) (.inl rfl) _) (.inl rfl) _
            have hgood : Fn.Good ⟨ac, me, co, ke, 0, -1, 0, Histo.S.empty, []⟩ := ⟨by show 0 ≤ ac ∧ ac < 16; omega, by show 1 ≤ me ∧ me ≤ 4096; omega, by show 1 ≤ co ∧ co ≤ 1000; omega, by show 0 ≤ ke ∧ ke ≤ 1000; omega, by simp, by simp, by simp, Histo.Ok.none⟩
            refine HTA.out.trans (To.newfn (s := { s with quota := d2 }) (w1 := wc.drew) (w2 := w5) hst ⟨h0.1, by omega⟩ hgood rfl rfl HX.out hbd l1 hnp.l1 hnp.l2 n1 n2 hnp.ne (by rw [HP.out.2.2.2] at *; exact hm5) (by rw [HP.out.2.2.2]; exact hg5) hg3 ((hpf5.set_ 2 _).set_ 3 _) hnp.kh.drew (hnp.kr.same rfl))
          have hBE : Blk ((w5.setCell ⟨pf, 2, none⟩ (.int .i64 co)).setCell ⟨pf, 3, none⟩ (.int .i64 ke)) B 28 #[.int .i64 k, .int .i64 n, .int .i64 lim, .int .i64 sz, .int .i64 rf, .int .i64 ac, .int .i64 me, .int .i64 co, .int .i64 re, .int .i64 ke] := ((only_setCell (only_setCell (only_refl w5 (some pf)) (.inl rfl) _) (.inl rfl) _).block B hB5.lt (fun e => hnB (by injection e))).trans hB5
          have hkp := HKP.out
          have ef : fput s n ac me co ke = FM.put s.fns n ⟨ac, me, co, ke, 0, -1, 0, Histo.S.empty, []⟩ := by unfold fput; rw [HX.out]
          rw [ef] at hkp
          have HKQ := Lib.hid hkp
          have HGO := Lib.hid hgo
          have HBX := Lib.hid hBE
          have HNB := Lib.hid hnB
          clear hnp n1 n2 l1 hfb hst mm hfml hmx hmap0 hbd hm5 hg5 hs5 hBB hne1 hB5 hpf5 hgo hBE hkp ef hnB s5 s6
          go_wp2
          go_still_tail 7, (by kernel_rfl)
          change wpList _ _ _ _ _ wc.drew
          go_wp2
          go_region
          have h3 := HGO.out.drew
          have hbB : Blk ((w5.setCell ⟨pf, 2, none⟩ (.int .i64 co)).setCell ⟨pf, 3, none⟩ (.int .i64 ke)).drew B 28 #[.int .i64 k, .int .i64 n, .int .i64 lim, .int .i64 sz, .int .i64 rf, .int .i64 ac, .int .i64 me, .int .i64 co, .int .i64 re, .int .i64 ke] := HBX.out.drew
          clear e1 e7 e9 f2 f3 z2 z3 c4 hrun
          generalize World.drew _ = w9 at h3 hbB ⊢
          have e1 : w9.cell? ⟨B, 1, none⟩ = some (.int .i64 n) := hbB.cell 1
          have HKC : Hid (Calls Tryz.prog 50 #[vptr p, .int .i64 n] w9 (Post (.tuple #[]) w g s s')) := Lib.hid (by
            refine (keep_any h3.st ((gfn_ne (by simp) (by simp) (by simp)).trans HP.out.1) HKQ.out).mono ?_
            rintro e w5 ⟨he, g5, h5⟩
            exact ⟨he, g5, h3.trans h5⟩)
          clear h3 hbB
          go_wp2_with (go_at_call 50; refine HKC.out.mono ?_; rintro e w10 ⟨rfl, hr⟩; have HR := Lib.hid hr; clear hr)
          go_ret
          exact ⟨rfl, HR.out⟩
      · have HX := Lib.hid (And.intro hx hfq)
        clear hx hfq
        go_wp2_with (go_at_call 47; refine HSF.out.mono ?_; rintro e wa ⟨rfl, hta, hba⟩; have HTA := Lib.hid hta; have HBA := Lib.hid hba; clear hta hba)
        obtain ⟨hx, hfq⟩ := HX.out
        have e1 : wa.cell? ⟨B, 1, none⟩ = some (.int .i64 n) := HBA.out.cell 1
        have e7 : wa.cell? ⟨B, 7, none⟩ = some (.int .i64 co) := HBA.out.cell 7
        have e9 : wa.cell? ⟨B, 9, none⟩ = some (.int .i64 ke) := HBA.out.cell 9
        have hfb := HTA.out.st.fnBlk (s := { s with quota := d2 }) hx hfq
        have f2 := hfb.cell 2
        have f3 := hfb.cell 3
        have z2 := hfb.frozen 2
        have z3 := hfb.frozen 3
        simp [Fn.cells] at f2 f3
        have hne : B ≠ fq := by
          rintro rfl
          have h1 := (HTA.out.st.fnAt (s := { s with quota := d2 }) hx).blk.lv.own
          rw [hfq, HOWN.out] at h1
          cases h1
        have HNE := Lib.hid hne
        clear hfb hne hx hfq
        go_region
        have hgx := (HTA.out.st.good.fns n x (by obtain ⟨h, _⟩ := HX.out; exact h)).2.2
        have hk := HKE.out
        have hl := HLIM.out
        have h1 := To.fnField (s := { s with quota := d2 }) HTA.out.st HX.out.1 HX.out.2 2 (.int .i64 co) (x' := { x with cost := co }) (fun h r => rfl) rfl rfl ⟨hgx.acc, hgx.mem, by show 1 ≤ co ∧ co ≤ 1000; omega, hgx.keep, hgx.often, hgx.last, hgx.til, hgx.hist⟩
        have hx1 : FM.get (FM.put s.fns n { x with cost := co }) n = some { x with cost := co } := by rw [FM.get_put, if_pos rfl]
        have h2 := To.fnField h1.use (x := { x with cost := co }) hx1 HX.out.2 3 (.int .i64 ke) (x' := { x with cost := co, keep := ke }) (fun h r => rfl) rfl rfl ⟨hgx.acc, hgx.mem, by show 1 ≤ co ∧ co ≤ 1000; omega, by show 0 ≤ ke ∧ ke ≤ 1000; omega, hgx.often, hgx.last, hgx.til, hgx.hist⟩
        have h3 := ((HTA.out.trans h1.all).trans h2.all).drew
        have hbB := ((h1.all.trans h2.all).drew).blk HBA.out HOWN.out
        simp only [put_put] at h3
        have hkp := HKP.out
        have ef : fput s n ac me co ke = FM.put s.fns n { x with cost := co, keep := ke } := by unfold fput; rw [HX.out.1]
        rw [ef] at hkp
        have HKQ := Lib.hid hkp
        clear hgx hk hl h1 hx1 h2 ef hkp e1 e7 e9 f2 f3 z2 z3
        generalize World.drew _ = w9 at h3 hbB ⊢
        have e1 : w9.cell? ⟨B, 1, none⟩ = some (.int .i64 n) := hbB.cell 1
        have HKC : Hid (Calls Tryz.prog 50 #[vptr p, .int .i64 n] w9 (Post (.tuple #[]) w g s s')) := Lib.hid (by
          refine (keep_any h3.st HP.out.1 HKQ.out).mono ?_
          rintro e w5 ⟨he, g5, h5⟩
          exact ⟨he, g5, h3.trans h5⟩)
        clear h3 hbB
        go_wp2_with (go_at_call 50; refine HKC.out.mono ?_; rintro e w10 ⟨rfl, hr⟩; have HR := Lib.hid hr; clear hr)
        go_ret
        exact ⟨rfl, HR.out⟩
    · have d7 : (d1 == 0) = false := by simpa using hd
      have d6 : (d1 != 0) = true := by simpa using hd
      have hf2 := HF2.out
      rw [if_pos hd] at hf2
      obtain ⟨rfl, rfl⟩ := fun_err hf2 hd HS.out
      have HD := Lib.hid hd
      clear hf2 hd
      go_wp2_with (go_at_call 47; refine HSF.out.mono ?_; rintro e wa ⟨rfl, hta, hba⟩; have HTA := Lib.hid hta; have HBA := Lib.hid hba; clear hta hba)
      go_ret
      refine ⟨rfl, g, ?_⟩
      have := HTA.out
      rw [HNO.out HD.out] at this
      exact this
theorem function_any {w : World} {g : G} {s s' : Core} {p : Nat} {e : Ev} {r : Int} (st : St w g s) (hp : g.ad .core = p) (hen : 0 ≤ e.n ∧ e.n ≤ 2147483647) (hea : 0 ≤ e.acct) (hek : 0 ≤ e.keep) (hs : s.function e = some (r, s')) : Calls Tryz.prog 23 #[vptr p, e.val] w (Post (.int .i64 r) w g s s') :=
  (function_fresh (fun _ hk => fresh_own hk) (To.fresh st).st hp hen hea hek hs).mono fun _ _ h => h.fresh st
end Go.Proofs.YtjmdgicdpggljaaGreat.GH
