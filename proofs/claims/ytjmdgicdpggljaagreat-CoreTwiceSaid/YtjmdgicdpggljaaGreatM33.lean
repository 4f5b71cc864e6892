/- Proved: what core's tick leaves. -/
import Derived.Test.YtjmdgicdpggljaaGreatM31
import Derived.Maps.RangeWalk
set_option linter.all false
namespace Go.Proofs.YtjmdgicdpggljaaGreat.GH
open Go.RowKit Go.Maps Go.Sort Go.Shelf Go.Proofs.YtjmdgicdpggljaaGreat.Histo Go.Proofs.YtjmdgicdpggljaaGreat.Event Go.Proofs.YtjmdgicdpggljaaGreat.Ring
set_option linter.unusedVariables false
open Go.Proofs.YtjmdgicdpggljaaGreat.MapI (AL At Rng W64)
attribute [local go_sem] Oper.semAt_some

/-- The accounts' tokens when those that are left haven't been turned yet. -/
def tl (left : Int → Bool) (l : FM Bkt) : FM Bkt := l.map fun p => (p.1, if left p.1 = true then p.2 else p.2.tick)
theorem tl_all {left : Int → Bool} {l : FM Bkt} (h : ∀ p ∈ l, left p.1 = true) : tl left l = l := by
  unfold tl
  conv => rhs; rw [← List.map_id l]
  exact List.map_congr_left fun p hp => by rw [if_pos (h p hp)]; rfl
theorem tl_none {left : Int → Bool} {l : FM Bkt} (h : ∀ p ∈ l, left p.1 = false) : tl left l = l.map fun p => (p.1, p.2.tick) := by
  unfold tl
  exact List.map_congr_left fun p hp => by rw [if_neg (by rw [h p hp]; simp)]
theorem tl_vals {left : Int → Bool} {l : FM Bkt} (f : Int → Value) : FM.vals (fun a _ => f a) (tl left l) = FM.vals (fun a _ => f a) l := by
  unfold tl FM.vals
  rw [List.map_map]; rfl
theorem tl_get (left : Int → Bool) (l : FM Bkt) (x : Int) : FM.get (tl left l) x = (FM.get l x).map fun k => if left x = true then k else k.tick := by
  unfold tl
  induction l with
  | nil => rfl
  | cons p r ih =>
    rw [List.map_cons, FM.get_cons, FM.get_cons]
    by_cases e : p.1 = x
    · rw [if_pos e, if_pos e, ← e]; rfl
    · rw [if_neg e, if_neg e, ih]
theorem tl_sorted {left : Int → Bool} {l : FM Bkt} (h : FM.Sorted l) : FM.Sorted (tl left l) := by
  unfold tl FM.Sorted
  rw [List.pairwise_map]
  exact h
theorem tl_put {left : Int → Bool} {l : FM Bkt} (hs : FM.Sorted l) {x : Int} {k : Bkt} (hx : FM.get l x = some k) (hl : left x = true) : FM.put (tl left l) x k.tick = tl (fun z => left z && z != x) l := by
  have hg : FM.get (tl left l) x = some k := by rw [tl_get, hx]; simp [hl]
  rw [FM.put_there (tl_sorted hs) hg]
  unfold tl
  rw [List.map_map]
  refine List.map_congr_left fun p hp => ?_
  show (if p.1 = x then (x, k.tick) else (p.1, _)) = _
  by_cases e : p.1 = x
  · rw [if_pos e]
    have : FM.get l p.1 = some p.2 := FM.get_of_mem hs hp
    rw [e, hx] at this
    cases this
    rw [e]
    simp
  · rw [if_neg e]
    have : (left p.1 && p.1 != x) = left p.1 := by simp [e]
    show (p.1, if left p.1 = true then p.2 else p.2.tick) = (p.1, if (left p.1 && p.1 != x) = true then p.2 else p.2.tick)
    rw [this]
section
variable {w w' : World} {g g' : G} {s s' : Core}
theorem St.turned (st : St w g s) {r : Nat} (hr : g.own r = .none) (hg : w.grownBy w' (some r)) : St w' g s := by
  obtain ⟨ov, m⟩ := st.mem
  have s1 : Step (fun t => t = .none) w g w' g := Step.of_grown hg (fun k e => by cases e; exact hr)
  exact ⟨⟨ov, m.turn s1 s ov (fun _ _ => rfl)⟩, st.good⟩
theorem To.turned (h : To w g s w' g' s') {r : Nat} (hr : w.heap.size ≤ r) (ho : g'.own r = .none) {w'' : World} (hg : w'.grownBy w'' (some r)) : To w g s w'' g' s' := by
  have s1 : Step (fun t => t = .none) w' g' w'' g' := Step.of_grown hg (fun k e => by cases e; exact ho)
  refine ⟨h.st.turned ho hg, ⟨s1.os.trans h.step.os, s1.tape.trans h.step.tape, s1.output.trans h.step.output, Nat.le_trans h.step.size s1.size, h.step.own, fun p hp hn => ?_, h.step.ad⟩, h.ad, h.kept⟩
  rw [← h.step.block p hp hn]
  exact hg.block p (Nat.lt_of_lt_of_le hp h.step.size) (fun e => by injection e with e; omega)
theorem To.setCell (h : To w g s w' g' s') {r : Nat} (hr : w.heap.size ≤ r) (ho : g'.own r = .none) (i : Nat) (v : Value) : To w g s (w'.setCell ⟨r, i, none⟩ v) g' s' :=
  h.turned hr ho (only_setCell (only_refl _ (some r)) (.inl rfl) v)
/-- The clock goes on. -/
theorem To.tock (st : St w g s) {p : Nat} (hp : g.ad .core = p) (hn : s.now < 1099511627776) : To w g s (w.setCell ⟨p, 0, none⟩ (.int .i64 (s.now + 1))) g { s with now := s.now + 1 } := by
  subst hp
  obtain ⟨ov, m⟩ := st.mem
  have s1 : Step (fun t => t = .core) w g (w.setCell ⟨g.ad .core, 0, none⟩ (.int .i64 (s.now + 1))) g := Step.of_grown (only_setCell (only_refl _ (some (g.ad .core))) (.inl rfl) _) (fun k e => by cases e; exact m.core.lv.own)
  have hb := m.core.blk.set_ 0 (.int .i64 (s.now + 1))
  have gd := st.good
  have h0 := gd.now
  refine To.of (m.turn s1 { s with now := s.now + 1 } ov (fun _ _ => rfl) (core := .inr ⟨⟨m.core.lv.own, Nat.lt_of_lt_of_le m.core.lv.lt s1.size⟩, hb⟩)) ⟨?_, gd.next, gd.toks, gd.fns, gd.caches, gd.boxes, gd.til, gd.ans, gd.outs⟩ s1 (by simp) (fun _ _ => rfl) (fun t ht => ht)
  show 0 ≤ s.now + 1 ∧ s.now + 1 ≤ 1099511627776
  omega
/-- What Next answers and leaves. -/
theorem tnext_use {q : Nat} (st : St w g s) (hq : g.ad .timers = q) (now : Int) : Calls Tryz.prog 41 #[vptr q, .int .i64 now] w fun e w' =>
    match s.timers.due now with
    | Option.none => e = .returned (.tuple #[.agg #[.int .i64 0, .int .i64 0], .bool false]) ∧ Below w.heap.size w w'
    | some k => e = .returned (.tuple #[.agg #[.int .i64 k.kind, .int .i64 k.id], .bool true]) ∧ ∃ g', To w g s w' g' { s with timers := s.timers.drop k } := by
  subst hq
  obtain ⟨ov, m⟩ := st.mem
  obtain ⟨v, hat, hv⟩ := m.timers.at_
  unfold Timers.due
  by_cases h0 : s.timers = []
  · rw [if_pos (.inl h0)]
    exact tnext_empty _ _ _ v _ now w hat h0
  · have hlen : 0 < s.timers.length := List.length_pos_iff.2 h0
    by_cases h1 : now < (hval s.timers 0).at_
    · rw [if_pos (.inr h1)]
      exact tnext_late _ _ _ v _ now w hat hlen h1
    · rw [if_neg (by rintro (h | h); exact h0 h; exact h1 h)]
      refine (tnext_due _ _ _ v _ now w hat hlen h1).mono ?_
      rintro e w' ⟨he, ht⟩
      exact ⟨he, To.timers st hv ht⟩
end
theorem due_none {n : Nat} {s t : Core} (h : Core.due (n + 1) s = some t) (hk : s.timers.due s.now = none) : s = t := by
  unfold Core.due at h
  rw [hk] at h
  cases h; rfl
theorem due_box {n : Nat} {s t : Core} {k : TKey} (h : Core.due (n + 1) s = some t) (hk : s.timers.due s.now = some k) (h0 : k.kind = 0) : ∃ b u, FM.get s.boxes k.id = some b ∧ ({ s with timers := s.timers.drop k } : Core).kill b = some u ∧ Core.due n u = some t := by
  unfold Core.due at h
  rw [hk] at h
  simp only at h
  rw [if_pos h0] at h
  split at h
  · cases h
  · next b hb =>
    split at h
    · cases h
    · next u hu => exact ⟨b, u, hb, hu, h⟩
theorem due_fn {n : Nat} {s t : Core} {k : TKey} (h : Core.due (n + 1) s = some t) (hk : s.timers.due s.now = some k) (h0 : k.kind ≠ 0) : ∃ u, ({ s with timers := s.timers.drop k } : Core).ahead k.id = some u ∧ Core.due n u = some t := by
  unfold Core.due at h
  rw [hk] at h
  simp only at h
  rw [if_neg h0] at h
  split at h
  · cases h
  · next u hu => exact ⟨u, hu, h⟩
theorem due_zero {s t : Core} (h : Core.due 0 s = some t) : False := by unfold Core.due at h; cases h
structure TLoop (w0 : World) (g : G) (s s1 : Core) (tm r N : Nat) (L : AL) (left : Int → Bool) (cnt : Nat) (wr : World) : Prop where
  rng : Rng Tryz.prog 3 wr tm r N L left cnt
  to_ : To w0 g s wr g { s1 with toks := tl left s1.toks }
set_option maxRecDepth 100000 in
set_option maxHeartbeats 8000000 in
theorem tick_fresh {w : World} {g : G} {s s' : Core} {p : Nat} (hfr : ∀ k, w.heap.size ≤ k → g.own k = .none) (st : St w g s) (hp : g.ad .core = p) (hs : s.tick = some s') : Calls Tryz.prog 21 #[vptr p] w (Post (.tuple #[]) w g s s') := by
  have c0 := st.now hp
  unfold Core.tick at hs
  by_cases hmx : s.now = 1099511627776
  · rw [if_pos hmx] at hs
    cases hs
    have d1 : (s.now == 1099511627776) = true := by simpa using hmx
    have HST := Lib.hid st
    obtain ⟨now, hnow⟩ : ∃ n, n = s.now := ⟨_, rfl⟩
    rw [← hnow] at c0 d1
    clear st hp hmx hnow hfr
    go_enter Tryz.func21, Tryz.ntmps21
    go_wp2
    go_end0
    exact ⟨rfl, g, To.refl HST.out⟩
  rw [if_neg hmx] at hs
  have d1 : (s.now == 1099511627776) = false := by simpa using hmx
  have hnb := st.good.now
  have hlt : s.now < 1099511627776 := by omega
  have fz := st.frozen hp 0
  obtain ⟨tm, htm⟩ : ∃ t, g.ad .toks = t := ⟨_, rfl⟩
  cases hd : Core.due (s.timers.length + 1) { s with now := s.now + 1, toks := s.toks.map fun p => (p.1, p.2.tick) } with
  | none => rw [hd] at hs; cases hs
  | some t =>
  rw [hd] at hs
  simp only at hs
  have HTO := Lib.hid (To.tock st hp hlt)
  obtain ⟨now, hnow⟩ : ∃ n, n = s.now := ⟨_, rfl⟩
  obtain ⟨s1, hs1⟩ : ∃ x, x = ({ s with now := s.now + 1 } : Core) := ⟨_, rfl⟩
  rw [← hs1] at HTO
  have hd2 : Core.due (s1.timers.length + 1) { s1 with toks := s1.toks.map fun p => (p.1, p.2.tick) } = some t := by rw [hs1]; exact hd
  rw [← hnow] at c0 d1 HTO hnb hlt
  have HD := Lib.hid hd2
  have HKA := Lib.hid hs
  have HM := Lib.hid (And.intro hp htm)
  have HFR := Lib.hid hfr
  clear st hs hd hd2 hp htm hmx hnow hs1 hfr
  go_enter Tryz.func21, Tryz.ntmps21
  go_upto_region 2 with (fail)
  generalize w.setCell _ _ = w1 at HTO ⊢
  have c3 := HTO.out.st.toks HM.out.1 HM.out.2
  have hmap : MapI.At Tryz.prog 3 w1 tm (FM.vals (fun a (_ : Bkt) => ptr (g.ad (.tok a))) s1.toks).length (FM.vals (fun a (_ : Bkt) => ptr (g.ad (.tok a))) s1.toks) := by
    obtain ⟨ov, m⟩ := HTO.out.st.mem
    have := m.toks.map
    rw [HM.out.2] at this
    exact this
  obtain ⟨L, hL⟩ : ∃ L, L = FM.vals (fun a (_ : Bkt) => ptr (g.ad (.tok a))) s1.toks := ⟨_, rfl⟩
  rw [← hL] at hmap
  obtain ⟨N, hN⟩ : ∃ N, N = L.length := ⟨_, rfl⟩
  rw [← hN] at hmap
  have HMAP := Lib.hid hmap
  have HLL := Lib.hid hL
  clear hmap hL hN
  go_wp2_with (at_range; refine MapI.wp_range _ rfl _ 47 rfl 3 119 Tryz.underlying3 Tryz.underlying47 tm N _ rfl HMAP.out ?_; intro w2 hrg hg1 _)
  go_frame
  obtain ⟨r, hr⟩ : ∃ r, r = w1.heap.size := ⟨_, rfl⟩
  rw [← hr] at hrg ⊢
  have hb1 : Below w1.heap.size w1 w2 := (Below.refl _ _).grown hg1 (Nat.le_refl _) (fun _ e => by cases e)
  have hor : g.own r = .none := HFR.out r (by rw [hr]; exact HTO.out.step.size)
  have hrs : w.heap.size ≤ r := by rw [hr]; exact HTO.out.step.size
  have hto : To w g s w2 g s1 := HTO.out.then hb1
  have hsr := hto.st.sorted.1
  have st0 : ∃ left cnt, TLoop w g s s1 tm r N L left cnt w2 := by
    refine ⟨fun x => (MapI.get L x).isSome, L.length, ⟨hrg, ?_⟩⟩
    rw [tl_all (fun q hq => by rw [HLL.out, FM.get_vals, FM.get_of_mem hsr hq]; rfl)]
    exact hto
  have ST := Lib.hid st0
  have HTO2 := Lib.hid hto
  have HOR := Lib.hid (And.intro hor hrs)
  have HSR := Lib.hid hsr
  have hwr : w2.heap.size = w2.heap.size := rfl
  clear st0 hrg hg1 hb1 hr hor hrs hto hsr c3 hwr HTO HMAP
  go_loopw [3] (fun _ wr => ∃ left cnt, TLoop w g s s1 tm r N L left cnt wr) (fun _ wr => wr.rangeLeft tm r)
  case atStart => exact ST.out
  case round =>
    obtain ⟨left, cnt, hF⟩ := hrel
    have HF := Lib.hid hF
    clear hF
    go_wp2_with (at_next; refine MapI.wp_next wr rfl _ rfl 3 Tryz.underlying3 tm r N L left cnt rfl HF.out.rng ?_ ?_)
    · intro _ hd
      have hto := HF.out.to_
      have hmem : ∀ q ∈ s1.toks, left q.1 = false := fun q hq => by
        have h1 := HTO2.out.st.good.toks q.1 q.2 (FM.get_of_mem HSR.out hq)
        exact hd q.1 (MapI.w64 (by omega) (by omega))
      rw [tl_none hmem] at hto
      have hdd := HD.out
      obtain ⟨sT, hsT⟩ : ∃ x, x = ({ s1 with toks := s1.toks.map fun p => (p.1, p.2.tick) } : Core) := ⟨_, rfl⟩
      rw [← hsT] at hto hdd
      have HTT := Lib.hid hto
      have HDD := Lib.hid hdd
      clear hd hto hmem hdd hsT HF ST
      obtain ⟨wo, rfl⟩ : ∃ x, x = wr := ⟨_, rfl⟩
      go_wp2
      go_loopg [5] s1.timers.length (fun gg _ wr => ∃ st' g', Core.due (gg + 1) st' = some t ∧ To w g s wr g' st')
      case atStart => exact ⟨_, _, HDD.out, HTT.out⟩
      case round =>
        obtain ⟨s2, g2, hdu, ht0⟩ := hrel
        have ht := ht0.trans (To.fresh ht0.st)
        obtain ⟨g3, hg3⟩ : ∃ x, x = g2.fresh wr.heap.size := ⟨_, rfl⟩
        rw [← hg3] at ht
        have hown : ∀ k, wr.heap.size ≤ k → g3.own k = .none := fun k hk => by rw [hg3]; exact fresh_own hk
        have hp3 := (ht.head (t := .core) trivial).trans HM.out.1
        obtain ⟨tq, htq⟩ : ∃ x, g3.ad .timers = x := ⟨_, rfl⟩
        have c9 := ht.st.timers hp3 htq
        have c0 := ht.st.now hp3
        obtain ⟨kk, ki, ok, s3, hk3, hcase⟩ : ∃ kk ki ok s3, (∀ W, Below wr.heap.size wr W → Calls Tryz.prog 41 #[vptr tq, .int .i64 s2.now] W fun e w4 => e = .returned (.tuple #[.agg #[.int .i64 kk, .int .i64 ki], .bool ok]) ∧ ∃ g4, To W g3 s2 w4 g4 s3) ∧
            ((ok = false ∧ s3 = s2 ∧ s2 = t) ∨ (ok = true ∧ s3 = { s2 with timers := s2.timers.drop ⟨kk, ki⟩ } ∧ s2.timers.due s2.now = some ⟨kk, ki⟩)) := by
          cases hk : s2.timers.due s2.now with
          | none =>
            refine ⟨0, 0, false, s2, fun W hW => ?_, .inl ⟨rfl, rfl, due_none hdu hk⟩⟩
            have := tnext_use (ht.st.below hW) htq s2.now
            rw [hk] at this
            refine this.mono ?_
            rintro e w4 ⟨he, hb⟩
            exact ⟨he, g3, To.below (ht.st.below hW) hb⟩
          | some k =>
            refine ⟨k.kind, k.id, true, _, fun W hW => ?_, .inr ⟨rfl, rfl, rfl⟩⟩
            have := tnext_use (ht.st.below hW) htq s2.now
            rw [hk] at this
            refine this.mono ?_
            rintro e w4 ⟨he, g4, h4⟩
            exact ⟨he, g4, h4⟩
        have HN1 : Hid (Calls Tryz.prog 41 #[vptr tq, .int .i64 s2.now] wr.drew fun e w4 => e = .returned (.tuple #[.agg #[.int .i64 kk, .int .i64 ki], .bool ok]) ∧ ∃ g4, To w g s w4 g4 s3) := Lib.hid (by
          refine (hk3 wr.drew (below_drewN (Below.refl wr.heap.size wr) 1)).mono ?_
          rintro e w4 ⟨he, g4, h4⟩
          exact ⟨he, g4, ht.trans (To.before (below_drewN (Below.refl wr.heap.size wr) 1) h4)⟩)
        have hba := below_drewN ((Below.refl wr.heap.size wr).alloc (Nat.le_refl _) (.cells #[.int .i64 0, .int .i64 0] 90)) 1
        have HN2 : Hid (Calls Tryz.prog 41 #[vptr tq, .int .i64 s2.now] (wr.alloc (.cells #[.int .i64 0, .int .i64 0] 90)).drew fun e w4 => e = .returned (.tuple #[.agg #[.int .i64 kk, .int .i64 ki], .bool ok]) ∧ ∃ g4, To w g s w4 g4 s3 ∧ Blk w4 wr.heap.size 90 #[.int .i64 0, .int .i64 0] ∧ g4.own wr.heap.size = .none ∧ w.heap.size ≤ wr.heap.size) := Lib.hid (by
          have hst := ht.st.below hba
          have hbk : Blk (wr.alloc (.cells #[.int .i64 0, .int .i64 0] 90)).drew wr.heap.size 90 #[.int .i64 0, .int .i64 0] := (Blk.new wr _ _).drew
          refine (hk3 _ hba).mono ?_
          rintro e w4 ⟨he, g4, h4⟩
          exact ⟨he, g4, ht.trans (To.before hba h4), h4.blk hbk (hown _ (Nat.le_refl _)), (h4.own hbk.lt).trans (hown _ (Nat.le_refl _)), ht.step.size⟩)
        have hws : w.heap.size ≤ wr.heap.size := ht.step.size
        have hst9 := ht.st.below ((Below.refl wr.heap.size wr).alloc (Nat.le_refl _) (.cells #[.int .i64 0, .int .i64 0] 90))
        have c9a := hst9.timers hp3 htq
        have c0a := hst9.now hp3
        have HWS := Lib.hid hws
        have HC := Lib.hid hcase
        have HDU := Lib.hid hdu
        obtain ⟨now2, hnow2⟩ : ∃ x, x = s2.now := ⟨_, rfl⟩
        rw [← hnow2] at HN1 HN2 c0 c0a
        clear hdu ht0 ht hg3 hown hp3 htq hk3 hcase hba hws hnow2 hst9
        go_upto_region 6 with (fail)
        go_cut [4, 5] (fun v4 v5 wx => ∃ B g4, v4 = vptr B ∧ v5 = .bool ok ∧ Blk wx B 90 #[.int .i64 kk, .int .i64 ki] ∧ To w g s wx g4 s3)
        case first =>
          go_region_with (go_at_call 41; first
            | (with_reducible refine HN1.out.mono ?_; rintro e w4 ⟨rfl, g4, h4⟩; have H4 := Lib.hid h4; clear h4)
            | (with_reducible refine HN2.out.mono ?_; rintro e w4 ⟨rfl, g4, h4, hb4, ho4, hs4⟩; have q0 := hb4.cell 0; have q1 := hb4.cell 1; have z0 := hb4.frozen 0; have z1 := hb4.frozen 1; simp at q0 q1; have H4 := Lib.hid (And.intro h4 (And.intro hb4 (And.intro ho4 hs4))); clear h4 hb4 ho4 hs4))
          all_goals
            go_wp2_with fail
            go_meet
            first
              | exact ⟨w4.heap.size, g4, rfl, rfl, Blk.new _ _ _, H4.out.then ((Below.refl _ w4).alloc (Nat.le_refl _) _)⟩
              | exact ⟨wr.heap.size, g4, rfl, rfl, (H4.out.2.1.set_ 0 _).set_ 1 _, (H4.out.1.setCell H4.out.2.2.2 H4.out.2.2.1 0 _).setCell H4.out.2.2.2 H4.out.2.2.1 1 _⟩
        case rest =>
          obtain ⟨B, g4, rfl, rfl, hbk, hto4⟩ := hcut
          have b0 : wc.cell? ⟨B, 0, none⟩ = some (.int .i64 kk) := hbk.cell 0
          have b1 : wc.cell? ⟨B, 1, none⟩ = some (.int .i64 ki) := hbk.cell 1
          have hp4 := (hto4.head (t := .core) trivial).trans HM.out.1
          rcases HC.out with ⟨rfl, h2, h3⟩ | ⟨rfl, h2, h3⟩
          · have HKN : Hid (∀ n, Calls Tryz.prog 25 #[vptr p] (wc.drewN n) fun e w5 => e = .returned (.tuple #[]) ∧ ∃ g', To w g s w5 g' s') := Lib.hid fun n => by
              have hka := HKA.out
              rw [← h3, ← h2] at hka
              refine (keepAll_any (hto4.drewN n).st hp4 hka).mono ?_
              rintro e w5 ⟨rfl, g5, h5⟩
              exact ⟨rfl, g5, (hto4.drewN n).trans h5⟩
            have HK0 := Lib.hid (HKN.out 0)
            clear hbk hto4 hp4 h2 h3 HC HDU
            go_wp2_with (go_at_call 25; refine HK0.out.mono ?_; rintro e w5 ⟨rfl, hr⟩; have HR := Lib.hid hr; clear hr)
            go_end0
            exact ⟨rfl, HR.out⟩
          · by_cases hkk : kk = 0
            · subst hkk
              obtain ⟨b, u, hgb, hku, hdn⟩ := due_box HDU.out h3 rfl
              rw [← h2] at hku
              obtain ⟨gg', hgg⟩ : ∃ gg', gk = gg' + 1 := by
                cases gk with
                | zero => exact (due_zero hdn).elim
                | succ m => exact ⟨m, rfl⟩
              subst hgg
              have hgb3 : FM.get s3.boxes ki = some b := by rw [h2]; exact hgb
              obtain ⟨bm, hbm⟩ : ∃ x, g4.ad .boxes = x := ⟨_, rfl⟩
              obtain ⟨bq, hbq⟩ : ∃ x, g4.ad (.box ki) = x := ⟨_, rfl⟩
              have hid := (hto4.st.good.boxes _ _ hgb3).1
              have c7 := hto4.st.boxes hp4 hbm
              have hlk := hto4.st.drew.look (w64_box hto4.st.good hgb3).1 hbm
              rw [hgb3] at hlk
              simp only [Option.map_some, Option.getD_some, hbq] at hlk
              have HKL : Hid (Calls Tryz.prog 42 #[vptr p, vptr bq] wc.drew fun e w5 => e = .returned (.tuple #[]) ∧ ∃ g', To w g s w5 g' u) := Lib.hid (by
                refine (kill_use hto4.st.drew hp4 (b := b) (by rw [hid]; exact hgb3) (by rw [hid]; exact hbq) hku).mono ?_
                rintro e w5 ⟨rfl, g5, h5⟩
                exact ⟨rfl, g5, hto4.drew.trans h5⟩)
              have HDN := Lib.hid hdn
              clear hbk hto4 hp4 h2 h3 HC HDU hgb hku hgb3 hbm hbq hid hdn
              go_wp2
              go_still_tail 8, (by kernel_rfl)
              change wpList _ _ _ _ _ wc.drew
              go_wp2_with (go_at_call 42; refine HKL.out.mono ?_; rintro e w5 ⟨rfl, g5, hr⟩; have HR := Lib.hid hr; clear hr)
              go_roundg gg'
              case measure => omega
              case rel => exact ⟨u, g5, HDN.out, HR.out⟩
            · obtain ⟨u, hau, hdn⟩ := due_fn HDU.out h3 hkk
              rw [← h2] at hau
              obtain ⟨gg', hgg⟩ : ∃ gg', gk = gg' + 1 := by
                cases gk with
                | zero => exact (due_zero hdn).elim
                | succ m => exact ⟨m, rfl⟩
              subst hgg
              have d9 : (kk == 0) = false := by simpa using hkk
              have HAL : Hid (Calls Tryz.prog 43 #[vptr p, .int .i64 ki] wc fun e w5 => e = .returned (.tuple #[]) ∧ ∃ g', To w g s w5 g' u) := Lib.hid (by
                refine (ahead_any hto4.st hp4 hau).mono ?_
                rintro e w5 ⟨rfl, g5, h5⟩
                exact ⟨rfl, g5, hto4.trans h5⟩)
              have HDN := Lib.hid hdn
              clear hbk hto4 hp4 h2 h3 HC HDU hau hdn hkk
              go_wp2_with (go_at_call 43; refine HAL.out.mono ?_; rintro e w5 ⟨rfl, g5, hr⟩; have HR := Lib.hid hr; clear hr)
              go_roundg gg'
              case measure => omega
              case rel => exact ⟨u, g5, HDN.out, HR.out⟩
    · intro y v w3 cnt2 hy hl hget hrg2 hlt hg2 hs2 hen
      have hgt := hget
      rw [HLL.out, FM.get_vals] at hgt
      obtain ⟨k, hk, hv⟩ := Option.map_eq_some_iff.1 hgt
      subst hv
      have hto3 : To w g s w3 g { s1 with toks := tl left s1.toks } := HF.out.to_.turned HOR.out.2 HOR.out.1 hg2
      have hkt : FM.get (tl left s1.toks) y = some k := by rw [tl_get, hk]; simp [hl]
      have htl := tl_put HSR.out hk hl
      have LEFT := Lib.hid (And.intro HF.out.rng.left_eq (And.intro hrg2.left_eq hlt))
      have htm : g.ad .toks = tm := HM.out.2
      have hown : g.own tm = .toks := by
        obtain ⟨ov, m⟩ := HTO2.out.st.mem
        rw [← htm]; exact m.toks.lv.own
      have HTK : Hid (Calls Tryz.prog 40 #[vptr (g.ad (.tok y))] w3 fun e w4 => e = .returned (.tuple #[]) ∧ TLoop w g s s1 tm r N L (fun z => left z && z != y) cnt2 w4) := Lib.hid (by
        refine (ktick_use (s := { s1 with toks := tl left s1.toks }) hto3.st hkt rfl).mono ?_
        rintro e w4 ⟨rfl, h4⟩
        refine ⟨rfl, hrg2.same (h4.step.block tm hrg2.owns.lt (by rw [hown]; simp)) (h4.step.block r hrg2.lt (by rw [HOR.out.1]; simp)), ?_⟩
        rw [← htl]
        exact hto3.trans h4.all)
      obtain ⟨tq, htq⟩ : ∃ q, q = g.ad (.tok y) := ⟨_, rfl⟩
      rw [← htq] at HTK hen hget ⊢
      clear hy hl hget hgt hk hto3 hkt htl htm hown htq hrg2 hlt hg2 hs2 HF ST
      go_wp2_with (go_at_call 40; refine HTK.out.mono ?_; rintro e w4 ⟨rfl, hr⟩; have HR := Lib.hid hr; clear hr)
      go_roundw
      case rel => exact ⟨_, _, HR.out⟩
      case measure => rw [HR.out.rng.left_eq, LEFT.out.1]; exact LEFT.out.2.2
theorem tick_any {w : World} {g : G} {s s' : Core} {p : Nat} (st : St w g s) (hp : g.ad .core = p) (hs : s.tick = some s') : Calls Tryz.prog 21 #[vptr p] w (Post (.tuple #[]) w g s s') :=
  (tick_fresh (fun _ hk => fresh_own hk) (To.fresh st).st hp hs).mono fun _ _ h => h.fresh st
end Go.Proofs.YtjmdgicdpggljaaGreat.GH

/- Proved: what core's call leaves and answers. -/
namespace Go.Proofs.YtjmdgicdpggljaaGreat.GH
open Go.RowKit Go.Maps Go.Sort Go.Shelf Go.Proofs.YtjmdgicdpggljaaGreat.Histo Go.Proofs.YtjmdgicdpggljaaGreat.Event Go.Proofs.YtjmdgicdpggljaaGreat.Ring
set_option linter.unusedVariables false
open Go.Proofs.YtjmdgicdpggljaaGreat.MapI (W64)
attribute [local go_sem] Oper.semAt_some

/-- The core is in a state, and an answer's block holds these. -/
def Fin4 (w : World) (g : G) (s : Core) (B : Nat) (t : Core) (W : World) : Prop := ∃ g', To w g s W g' t ∧ Blk W B 34 #[.int .i64 0, .int .i64 0, .int .i64 0, .int .i64 0] ∧ g'.own B = .none
theorem Fin4.of {w w1 W : World} {g g' : G} {s t : Core} {B : Nat} (h0 : To w g s w1 g s) (hk : Blk w1 B 34 #[.int .i64 0, .int .i64 0, .int .i64 0, .int .i64 0]) (ho : g.own B = .none) (h : To w1 g s W g' t) : Fin4 w g s B t W :=
  ⟨g', h0.trans h, h.blk hk ho, (h.own hk.lt).trans ho⟩
theorem Fin4.cells {w : World} {g : G} {s : Core} {B : Nat} {t : Core} {W : World} (h : Fin4 w g s B t W) : (W.cell? ⟨B, 0, none⟩ = some (.int .i64 0) ∧ W.cell? ⟨B, 1, none⟩ = some (.int .i64 0) ∧ W.cell? ⟨B, 2, none⟩ = some (.int .i64 0) ∧ W.cell? ⟨B, 3, none⟩ = some (.int .i64 0)) ∧ W.frozen? ⟨B, 0, none⟩ = false ∧ W.frozen? ⟨B, 1, none⟩ = false ∧ W.frozen? ⟨B, 2, none⟩ = false ∧ W.frozen? ⟨B, 3, none⟩ = false := by
  obtain ⟨g', _, h, _⟩ := h
  exact ⟨⟨h.cell 0, h.cell 1, h.cell 2, h.cell 3⟩, h.frozen 0, h.frozen 1, h.frozen 2, h.frozen 3⟩
def put4 (W : World) (B : Nat) (a0 a1 a2 a3 : Value) : World := (((W.setCell ⟨B, 0, none⟩ a0).setCell ⟨B, 1, none⟩ a1).setCell ⟨B, 2, none⟩ a2).setCell ⟨B, 3, none⟩ a3
theorem Fin4.put {w : World} {g : G} {s : Core} {B : Nat} {t : Core} {W : World} (h : Fin4 w g s B t W) (hB : w.heap.size ≤ B) (a0 a1 a2 a3 : Value) :
    ((put4 W B a0 a1 a2 a3).cell? ⟨B, 0, none⟩ = some a0 ∧ (put4 W B a0 a1 a2 a3).cell? ⟨B, 1, none⟩ = some a1 ∧ (put4 W B a0 a1 a2 a3).cell? ⟨B, 2, none⟩ = some a2 ∧ (put4 W B a0 a1 a2 a3).cell? ⟨B, 3, none⟩ = some a3) ∧ ∃ g', To w g s (put4 W B a0 a1 a2 a3) g' t := by
  obtain ⟨g', h1, h2, h3⟩ := h
  have hb := (((h2.set_ 0 a0).set_ 1 a1).set_ 2 a2).set_ 3 a3
  refine ⟨⟨hb.cell 0, hb.cell 1, hb.cell 2, hb.cell 3⟩, g', ?_⟩
  exact (((h1.setCell hB h3 0 a0).setCell hB h3 1 a1).setCell hB h3 2 a2).setCell hB h3 3 a3
theorem Fin4.then {w : World} {g : G} {s : Core} {B : Nat} {t : Core} {W W' : World} (h : Fin4 w g s B t W) (hb : Below W.heap.size W W') : Fin4 w g s B t W' := by
  obtain ⟨g', h1, h2, h3⟩ := h
  exact ⟨g', h1.then hb, h2.below hb h2.lt, h3⟩
theorem gone_toks {s t : Core} {b : Box} (h : s.gone b = some t) : t.toks = s.toks := by
  unfold Core.gone at h
  simp only at h
  split at h
  · split at h
    · cases h
    · cases h; rfl
  · cases h; rfl
theorem kill_toks {s t : Core} {b : Box} (h : s.kill b = some t) : t.toks = s.toks := by
  unfold Core.kill at h
  obtain ⟨u, hu, e⟩ := Option.map_eq_some_iff.1 h
  cases e
  exact gone_toks (t := u) hu
theorem evicts_toks {n : Nat} {s t : Core} {h mem : Int} (e : Core.evicts n s h mem = some t) : t.toks = s.toks := by
  induction n generalizing s with
  | zero => unfold Core.evicts at e; cases e
  | succ n ih =>
    unfold Core.evicts at e
    split at e
    · split at e
      · cases e
      · next b hb =>
        split at e
        · cases e
        · next u hu => rw [ih e, kill_toks hu]; rfl
    · cases e; rfl
theorem rooms_toks {n : Nat} {s t : Core} {h mem r : Int} (e : Core.rooms n s mem h = some (t, r)) : t.toks = s.toks := by
  induction n generalizing h with
  | zero => unfold Core.rooms at e; cases e; rfl
  | succ n ih =>
    unfold Core.rooms at e
    split at e
    · exact ih e
    · split at e
      · cases e
      · next u hu => cases e; exact evicts_toks hu
theorem room_toks {s t : Core} {mem r : Int} (e : s.room mem = some (t, r)) : t.toks = s.toks := by
  unfold Core.room at e
  split at e
  · cases e; rfl
  · exact rooms_toks e
theorem begin_box {s t : Core} {f : Int} {b : Box} (h : s.begin f b = some t) : FM.get t.boxes b.id = some (b.call s.now) ∧ ((b.call s.now).cells)[0]? = some (.int .i64 b.id) := by
  refine ⟨?_, by have := call_id b s.now; unfold Box.cells; rw [← this]; rfl⟩
  unfold Core.begin at h
  split at h
  · cases h
  · cases h
    show FM.get (FM.put _ (b.call s.now).id (b.call s.now)) b.id = _
    rw [FM.get_put, call_id, if_pos rfl]
set_option maxRecDepth 100000 in
set_option maxHeartbeats 8000000 in
theorem call_no {w : World} {g : G} {s s' : Core} {p : Nat} {f : Int} {a : Ans} (hfr : ∀ k, w.heap.size ≤ k → g.own k = .none) (st : St w g s) (hp : g.ad .core = p) (hq : s.quota.ask f ≠ 0) (hs : s.call f = some (a, s')) : Calls Tryz.prog 28 #[vptr p, .int .i64 f] w (Post a.val w g s s') := by
  obtain ⟨qm, hqm⟩ : ∃ t, g.ad .quota = t := ⟨_, rfl⟩
  have hb1 := (Below.refl w.heap.size w).alloc (Nat.le_refl _) (.cells #[.int .i64 0, .int .i64 0, .int .i64 0, .int .i64 0] 34)
  have hbk := Blk.new w 34 #[.int .i64 0, .int .i64 0, .int .i64 0, .int .i64 0]
  have HST := Lib.hid st
  have HOWN := Lib.hid (hfr _ (Nat.le_refl _))
  have HP := Lib.hid (And.intro hp hqm)
  obtain ⟨x, hx⟩ : ∃ x, x = s.quota.ask f := ⟨_, rfl⟩
  unfold Core.call at hs
  rw [← hx] at hs hq
  have HS := Lib.hid hs
  have HX := Lib.hid hx
  have hxv : x = -1 ∨ x = 1 ∨ x = 2 := by
    rw [hx] at hq ⊢
    unfold Quota.ask at hq ⊢
    split
    · exact .inl rfl
    · next h1 =>
      rw [if_neg h1] at hq
      split
      · exact .inr (.inl rfl)
      · next h2 =>
        rw [if_neg h2] at hq
        split
        · exact .inr (.inr rfl)
        · next h3 => rw [if_neg h3] at hq; exact absurd rfl hq
  clear st hp hqm hfr hs hx hq
  go_enter Tryz.func28, Tryz.ntmps28
  go_upto_region 1 with (fail)
  generalize w.alloc (.cells #[.int .i64 0, .int .i64 0, .int .i64 0, .int .i64 0] 34) = w1 at hb1 hbk ⊢
  obtain ⟨B, hB⟩ : ∃ B, B = w.heap.size := ⟨_, rfl⟩
  have c2 := (HST.out.below hb1).quota HP.out.1 HP.out.2
  have HT1 := Lib.hid (To.below HST.out hb1)
  rw [← hB] at hbk HOWN ⊢
  have HBK := Lib.hid hbk
  have HBE : Hid (w.heap.size ≤ B) := Lib.hid (by omega)
  have HAS : Hid (Calls Tryz.prog 60 #[vptr qm, .int .i64 f] w1 (Asked x w1)) := Lib.hid (by rw [HX.out]; exact ask_use HT1.out.st HP.out.2 f)
  clear hb1 hbk hB
  rcases hxv with rfl | rfl | rfl
  · have hs := HS.out
    simp at hs
    obtain ⟨rfl, rfl⟩ := hs
    go_wp2_with (go_at_call 60; refine HAS.out.mono ?_; rintro e w2 ⟨rfl, hb2⟩; have HF := Lib.hid (Fin4.of HT1.out HBK.out HOWN.out (To.below HT1.out.st hb2)); clear hb2; obtain ⟨⟨d0, d1, d2, d3⟩, z0, z1, z2, z3⟩ := HF.out.cells; unfold askVal)
    obtain ⟨⟨r0, r1, r2, r3⟩, hr⟩ := HF.out.put HBE.out (.int .i64 1) (.int .i64 0) (.int .i64 0) (.int .i64 2)
    unfold put4 at r0 r1 r2 r3 hr
    exact bodyPost_ret (v := .agg #[.int .i64 1, .int .i64 0, .int .i64 0, .int .i64 2]) (by simp [results, Tryz.results28, go_sem, r0, r1, r2, r3]) rfl ⟨rfl, hr⟩
  · have hs := HS.out
    simp at hs
    obtain ⟨rfl, rfl⟩ := hs
    go_wp2_with (go_at_call 60; refine HAS.out.mono ?_; rintro e w2 ⟨rfl, hb2⟩; have HF := Lib.hid (Fin4.of HT1.out HBK.out HOWN.out (To.below HT1.out.st hb2)); clear hb2; obtain ⟨⟨d0, d1, d2, d3⟩, z0, z1, z2, z3⟩ := HF.out.cells; unfold askVal)
    obtain ⟨⟨r0, r1, r2, r3⟩, hr⟩ := HF.out.put HBE.out (.int .i64 4) (.int .i64 0) (.int .i64 1) (.int .i64 0)
    unfold put4 at r0 r1 r2 r3 hr
    exact bodyPost_ret (v := .agg #[.int .i64 4, .int .i64 0, .int .i64 1, .int .i64 0]) (by simp [results, Tryz.results28, go_sem, r0, r1, r2, r3]) rfl ⟨rfl, hr⟩
  · have hs := HS.out
    simp at hs
    obtain ⟨rfl, rfl⟩ := hs
    go_wp2_with (go_at_call 60; refine HAS.out.mono ?_; rintro e w2 ⟨rfl, hb2⟩; have HF := Lib.hid (Fin4.of HT1.out HBK.out HOWN.out (To.below HT1.out.st hb2)); clear hb2; obtain ⟨⟨d0, d1, d2, d3⟩, z0, z1, z2, z3⟩ := HF.out.cells; unfold askVal)
    obtain ⟨⟨r0, r1, r2, r3⟩, hr⟩ := HF.out.put HBE.out (.int .i64 4) (.int .i64 0) (.int .i64 2) (.int .i64 0)
    unfold put4 at r0 r1 r2 r3 hr
    exact bodyPost_ret (v := .agg #[.int .i64 4, .int .i64 0, .int .i64 2, .int .i64 0]) (by simp [results, Tryz.results28, go_sem, r0, r1, r2, r3]) rfl ⟨rfl, hr⟩
set_option maxRecDepth 100000 in
set_option maxHeartbeats 8000000 in
theorem call_warm {w : World} {g : G} {s t : Core} {p : Nat} {f : Int} {x : Fn} {b : Box} (hfr : ∀ k, w.heap.size ≤ k → g.own k = .none) (st : St w g s) (hp : g.ad .core = p) (hq : s.quota.ask f = 0) (hx : FM.get s.fns f = some x) (hf : s.free f = some b) (hs : s.begin f b = some t) : Calls Tryz.prog 28 #[vptr p, .int .i64 f] w (Post (Ans.val ⟨2, b.id, 0, 0⟩) w g s t) := by
  obtain ⟨qm, hqm⟩ : ∃ t, g.ad .quota = t := ⟨_, rfl⟩
  obtain ⟨fm, hfm⟩ : ∃ t, g.ad .fns = t := ⟨_, rfl⟩
  have hb1 := (Below.refl w.heap.size w).alloc (Nat.le_refl _) (.cells #[.int .i64 0, .int .i64 0, .int .i64 0, .int .i64 0] 34)
  have hbk := Blk.new w 34 #[.int .i64 0, .int .i64 0, .int .i64 0, .int .i64 0]
  have HST := Lib.hid st
  have HOWN := Lib.hid (hfr _ (Nat.le_refl _))
  have HP := Lib.hid (And.intro hp (And.intro hqm hfm))
  have wf : W64 f := w64_fn ⟨(st.good.fns _ _ hx).1, (st.good.fns _ _ hx).2.1⟩
  have hbx : FM.get s.boxes b.id = some b := best_in st.good st.sorted.2.2.2.1 f _ b (by rw [best_all]; exact hf)
  obtain ⟨fq, hfq⟩ : ∃ t, g.ad (.fn f) = t := ⟨_, rfl⟩
  obtain ⟨bq, hbq⟩ : ∃ t, g.ad (.box b.id) = t := ⟨_, rfl⟩
  have HLK : Hid (∀ W, St W g s → W.cell? ⟨p, 4, none⟩ = some (.map (some fm)) ∧ (Instr.lookup 48 (.map (some fm)) (.int .i64 f) false).run Tryz.prog W = .ok (vptr fq) W ∧
      Calls Tryz.prog 61 #[vptr p, .int .i64 f] W (fun e W' => e = .returned (vptr bq) ∧ Below W.heap.size W W') ∧
      Calls Tryz.prog 62 #[vptr p, .int .i64 f, vptr bq] W (fun e W' => e = .returned (.tuple #[]) ∧ ∃ g', To W g s W' g' t ∧ W'.cell? ⟨bq, 0, none⟩ = some (.int .i64 b.id))) := Lib.hid fun W hW => by
    have hl := fns_look hW wf hfm
    rw [hx] at hl
    simp only [Option.map_some, Option.getD_some, hfq] at hl
    have hfa := free_any hW hp (f := f)
    rw [hf] at hfa
    unfold bptr at hfa
    simp only [hbq] at hfa
    refine ⟨hW.fns hp hfm, hl, hfa, ?_⟩
    refine (begin_any hW hp hbx hbq hs).mono ?_
    rintro e W' ⟨he, g', h'⟩
    obtain ⟨e1, e2⟩ := begin_box hs
    refine ⟨he, g', h', ?_⟩
    have hkb := box_keep hW.good hbx
    exact ((h'.st.box e1 ((h'.ad _ hkb).trans hbq)).cell 0).trans e2
  have HQ := Lib.hid hq
  obtain ⟨bi, hbi⟩ : ∃ i, i = b.id := ⟨_, rfl⟩
  rw [← hbi] at HLK ⊢
  unfold Ans.val
  simp only
  clear st hp hqm hfm hfr hx hf hs hbx hfq hbq hq wf hbi
  go_enter Tryz.func28, Tryz.ntmps28
  go_upto_region 1 with (fail)
  generalize w.alloc (.cells #[.int .i64 0, .int .i64 0, .int .i64 0, .int .i64 0] 34) = w1 at hb1 hbk ⊢
  obtain ⟨B, hB⟩ : ∃ B, B = w.heap.size := ⟨_, rfl⟩
  have c2 := (HST.out.below hb1).quota HP.out.1 HP.out.2.1
  have HT1 := Lib.hid (To.below HST.out hb1)
  rw [← hB] at hbk HOWN ⊢
  have HBK := Lib.hid hbk
  have HBE : Hid (w.heap.size ≤ B) := Lib.hid (by omega)
  have HAS : Hid (Calls Tryz.prog 60 #[vptr qm, .int .i64 f] w1 (Asked 0 w1)) := Lib.hid (by rw [← HQ.out]; exact ask_use HT1.out.st HP.out.2.1 f)
  clear hb1 hbk hB
  go_wp2_with (first
    | (go_at_call 60; refine HAS.out.mono ?_; rintro e w2 ⟨rfl, hb2⟩; have H2 := Lib.hid (To.below HT1.out.st hb2); clear hb2; obtain ⟨c4, hlk, hfa, _⟩ := HLK.out w2 H2.out.st; have HFA := Lib.hid hfa; clear hfa; unfold askVal)
    | (go_at_call 61; refine HFA.out.mono ?_; rintro e w3 ⟨rfl, hb3⟩; have H3 := Lib.hid (H2.out.then hb3); clear hb3; obtain ⟨_, _, _, hbg⟩ := HLK.out w3 H3.out.st; have HBG := Lib.hid hbg; clear hbg)
    | (go_at_call 62; refine HBG.out.mono ?_; rintro e w4 ⟨rfl, g4, h4, k0⟩; have H4 := Lib.hid (H3.out.trans h4); clear h4; have HF := Lib.hid (Fin4.of HT1.out HBK.out HOWN.out H4.out); obtain ⟨⟨d0, d1, d2, d3⟩, z0, z1, z2, z3⟩ := HF.out.cells))
  obtain ⟨⟨r0, r1, r2, r3⟩, hr⟩ := HF.out.put HBE.out (.int .i64 2) (.int .i64 bi) (.int .i64 0) (.int .i64 0)
  unfold put4 at r0 r1 r2 r3 hr
  exact bodyPost_ret (v := .agg #[.int .i64 2, .int .i64 bi, .int .i64 0, .int .i64 0]) (by simp [results, Tryz.results28, go_sem, r0, r1, r2, r3]) rfl ⟨rfl, hr⟩
set_option maxRecDepth 100000 in
set_option maxHeartbeats 8000000 in
theorem call_cold {w : World} {g : G} {s s' : Core} {p : Nat} {f : Int} {x : Fn} {k : Bkt} {a : Ans} (hfr : ∀ k, w.heap.size ≤ k → g.own k = .none) (st : St w g s) (hp : g.ad .core = p) (hq : s.quota.ask f = 0) (hx : FM.get s.fns f = some x) (hf : s.free f = none) (hk : FM.get s.toks x.acc = some k)
    (hs : (if k.tok = 0 then some ((⟨4, 0, 3, 0⟩ : Ans), s) else match s.room x.mem with
          | none => none
          | some (t, h) => if h < 0 then some (⟨4, 0, 4, 0⟩, t) else match ({ t with toks := FM.put t.toks x.acc k.take } : Core).start f h with
            | none => none
            | some (u, b) => (u.begin f b).map fun v => (⟨3, b.id, 0, 0⟩, v)) = some (a, s')) : Calls Tryz.prog 28 #[vptr p, .int .i64 f] w (Post a.val w g s s') := by
  obtain ⟨qm, hqm⟩ : ∃ t, g.ad .quota = t := ⟨_, rfl⟩
  obtain ⟨fm, hfm⟩ : ∃ t, g.ad .fns = t := ⟨_, rfl⟩
  have hb1 := (Below.refl w.heap.size w).alloc (Nat.le_refl _) (.cells #[.int .i64 0, .int .i64 0, .int .i64 0, .int .i64 0] 34)
  have hbk := Blk.new w 34 #[.int .i64 0, .int .i64 0, .int .i64 0, .int .i64 0]
  have HST := Lib.hid st
  have HOWN := Lib.hid (hfr _ (Nat.le_refl _))
  have HP := Lib.hid (And.intro hp (And.intro hqm hfm))
  have wf : W64 f := w64_fn ⟨(st.good.fns _ _ hx).1, (st.good.fns _ _ hx).2.1⟩
  obtain ⟨fq, hfq⟩ : ∃ t, g.ad (.fn f) = t := ⟨_, rfl⟩
  obtain ⟨tm, htm⟩ : ∃ t, g.ad .toks = t := ⟨_, rfl⟩
  obtain ⟨tq, htq⟩ : ∃ t, g.ad (.tok x.acc) = t := ⟨_, rfl⟩
  have gx := (st.good.fns _ _ hx).2.2
  have wa : W64 x.acc := MapI.w64 (by have := gx.acc; omega) (by have := gx.acc; omega)
  have hktok : Kept s (.tok x.acc) := by show (FM.get s.toks x.acc).isSome = true; rw [hk]; rfl
  have HLK : Hid (∀ W, St W g s → (W.cell? ⟨p, 4, none⟩ = some (.map (some fm)) ∧ W.cell? ⟨p, 3, none⟩ = some (.map (some tm)) ∧ W.cell? ⟨fq, 0, none⟩ = some (.int .i64 x.acc) ∧ W.cell? ⟨fq, 1, none⟩ = some (.int .i64 x.mem)) ∧ (Instr.lookup 48 (.map (some fm)) (.int .i64 f) false).run Tryz.prog W = .ok (vptr fq) W ∧
      (Instr.lookup 47 (.map (some tm)) (.int .i64 x.acc) false).run Tryz.prog W = .ok (vptr tq) W ∧
      Calls Tryz.prog 61 #[vptr p, .int .i64 f] W (fun e W' => e = .returned (.pointer none) ∧ Below W.heap.size W W') ∧ Calls Tryz.prog 63 #[vptr tq] W (RetV (.int .i64 k.tok) W)) := Lib.hid fun W hW => by
    have hl := fns_look hW wf hfm
    rw [hx] at hl
    simp only [Option.map_some, Option.getD_some, hfq] at hl
    have hl2 := hW.tokLook wa htm
    rw [hk] at hl2
    simp only [Option.map_some, Option.getD_some, htq] at hl2
    have hfa := free_any hW hp (f := f)
    rw [hf] at hfa
    have hfb := hW.fnBlk hx hfq
    exact ⟨⟨hW.fns hp hfm, hW.toks hp htm, hfb.cell 0, hfb.cell 1⟩, hl, hl2, hfa, ktok_use hW hk htq⟩
  have HRM : Hid (k.tok ≠ 0 → ∃ h, ((h < 0 ∧ a = ⟨4, 0, 4, 0⟩) ∨ (0 ≤ h ∧ ∃ bi, a = ⟨3, bi, 0, 0⟩)) ∧ ∀ W, St W g s → Calls Tryz.prog 64 #[vptr p, .int .i64 x.mem] W (fun e w2 => e = .returned (.tuple #[.int .i64 (max h 0), .bool (decide (0 ≤ h))]) ∧
      (h < 0 → ∃ g2, To W g s w2 g2 s') ∧ (0 ≤ h → Calls Tryz.prog 65 #[vptr tq] w2 fun e w3 => (∃ v, e = .returned v) ∧ Calls Tryz.prog 66 #[vptr p, .int .i64 f, .int .i64 (max h 0)] w3 fun e w4 => ∃ bq, e = .returned (vptr bq) ∧
        Calls Tryz.prog 62 #[vptr p, .int .i64 f, vptr bq] w4 fun e w5 => e = .returned (.tuple #[]) ∧ w5.cell? ⟨bq, 0, none⟩ = some (.int .i64 a.box) ∧ ∃ g5, To W g s w5 g5 s'))) := Lib.hid fun h0 => by
    rw [if_neg h0] at hs
    cases hr : s.room x.mem with
    | none => rw [hr] at hs; cases hs
    | some th =>
      obtain ⟨t, h⟩ := th
      rw [hr] at hs
      simp only at hs
      have hh32 := room_lt hr
      have hto := room_toks hr
      by_cases hh : h < 0
      · rw [if_pos hh] at hs
        cases hs
        refine ⟨h, .inl ⟨hh, rfl⟩, fun W hW => ?_⟩
        refine (room_any hW hp ⟨by have := gx.mem; omega, gx.mem.2⟩ hr).mono ?_
        rintro e w2 ⟨he, g2, h2⟩
        exact ⟨he, fun _ => ⟨g2, h2⟩, fun h9 => by omega⟩
      · rw [if_neg hh] at hs
        cases hst : ({ t with toks := FM.put t.toks x.acc k.take } : Core).start f h with
        | none => rw [hst] at hs; cases hs
        | some ub =>
          obtain ⟨u, b⟩ := ub
          rw [hst] at hs
          simp only at hs
          obtain ⟨v, hv, e9⟩ := Option.map_eq_some_iff.1 hs
          cases e9
          refine ⟨h, .inr ⟨by omega, b.id, rfl⟩, fun W hW => ?_⟩
          refine (room_any hW hp ⟨by have := gx.mem; omega, gx.mem.2⟩ hr).mono ?_
          rintro e w2 ⟨he, g2, h2⟩
          refine ⟨he, fun h9 => by omega, fun _ => ?_⟩
          have e1 := (h2.head (t := .core) trivial).trans hp
          have e2 := (h2.ad _ hktok).trans htq
          have hk2 : FM.get t.toks x.acc = some k := by rw [hto]; exact hk
          refine (ktake_use h2.st hk2 e2).mono ?_
          rintro e w3 ⟨he3, h3⟩
          refine ⟨he3, ?_⟩
          rw [show max h 0 = h by omega]
          refine (start_any h3.use e1 ⟨by omega, hh32⟩ hst).mono ?_
          rintro e w4 ⟨g4, he4, h4⟩
          refine ⟨_, he4, ?_⟩
          obtain ⟨p1, p2, p3, p4, p5, _⟩ := start_parts hst
          have e4 := (h4.head (t := .core) trivial).trans e1
          refine (begin_any h4.st e4 p5 rfl hv).mono ?_
          rintro e w5 ⟨he5, g5, h5⟩
          obtain ⟨f1, f2⟩ := begin_box hv
          refine ⟨he5, ?_, g5, (h2.trans h3.all).trans (h4.trans h5)⟩
          have hkb := box_keep h4.st.good p5
          exact ((h5.st.box f1 (h5.ad _ hkb)).cell 0).trans f2
  have HNT : Hid (k.tok = 0 → a = ⟨4, 0, 3, 0⟩ ∧ s' = s) := Lib.hid fun h0 => by
    rw [if_pos h0] at hs
    cases hs
    exact ⟨rfl, rfl⟩
  have HQ := Lib.hid hq
  obtain ⟨xa, hxa⟩ : ∃ i, i = x.acc := ⟨_, rfl⟩
  obtain ⟨xm, hxm⟩ : ∃ i, i = x.mem := ⟨_, rfl⟩
  obtain ⟨kt, hkt⟩ : ∃ i, i = k.tok := ⟨_, rfl⟩
  rw [← hxa, ← hxm, ← hkt] at HLK
  rw [← hxm, ← hkt] at HRM
  rw [← hkt] at HNT
  clear st hp hqm hfm hfr hx hf hs hfq hq wf htm htq gx wa hktok hk hxa hxm hkt
  go_enter Tryz.func28, Tryz.ntmps28
  go_upto_region 1 with (fail)
  generalize w.alloc (.cells #[.int .i64 0, .int .i64 0, .int .i64 0, .int .i64 0] 34) = w1 at hb1 hbk ⊢
  obtain ⟨B, hB⟩ : ∃ B, B = w.heap.size := ⟨_, rfl⟩
  have c2 := (HST.out.below hb1).quota HP.out.1 HP.out.2.1
  have HT1 := Lib.hid (To.below HST.out hb1)
  rw [← hB] at hbk HOWN ⊢
  have HBK := Lib.hid hbk
  have HBE : Hid (w.heap.size ≤ B) := Lib.hid (by omega)
  have HAS : Hid (Calls Tryz.prog 60 #[vptr qm, .int .i64 f] w1 (Asked 0 w1)) := Lib.hid (by rw [← HQ.out]; exact ask_use HT1.out.st HP.out.2.1 f)
  clear hb1 hbk hB
  go_wp2_with (first
    | (go_at_call 60; refine HAS.out.mono ?_; rintro e w2 ⟨rfl, hb2⟩; have H2 := Lib.hid (To.below HT1.out.st hb2); clear hb2; obtain ⟨⟨c4, _, _, _⟩, hlk, _, hfa, _⟩ := HLK.out w2 H2.out.st; have HFA := Lib.hid hfa; clear hfa; unfold askVal)
    | (go_at_call 61; refine HFA.out.mono ?_; rintro e w3 ⟨rfl, hb3⟩; have H3 := Lib.hid (H2.out.then hb3); clear hb3))
  obtain ⟨⟨_, d3, x0, x1⟩, _, _, _, _⟩ := HLK.out w3 H3.out.st
  have hlk2 := fun n => (HLK.out (w3.drewN n) (H3.out.drewN n).st).2.2.1
  have HTN : Hid (∀ n, Calls Tryz.prog 63 #[vptr tq] (w3.drewN n) (RetV (.int .i64 kt) (w3.drewN n))) := Lib.hid fun n => (HLK.out (w3.drewN n) (H3.out.drewN n).st).2.2.2.2
  go_quiet (fail)
  clear hlk2 hlk c4 c2
  by_cases h0 : kt = 0
  · have d9 : (kt == 0) = true := by simpa using h0
    obtain ⟨rfl, rfl⟩ := HNT.out h0
    clear h0
    go_wp2_with (go_at_call 63; refine (HTN.out _).mono ?_; rintro e w4 ⟨rfl, n8, hw4⟩; have HF := Lib.hid (Fin4.of HT1.out HBK.out HOWN.out ((H3.out.drewN nq).drewN n8)); rw [← hw4] at HF; obtain ⟨⟨d0, d1, d2, d3⟩, z0, z1, z2, z3⟩ := HF.out.cells; clear hw4)
    obtain ⟨⟨r0, r1, r2, r3⟩, hr⟩ := HF.out.put HBE.out (.int .i64 4) (.int .i64 0) (.int .i64 3) (.int .i64 0)
    unfold put4 at r0 r1 r2 r3 hr
    exact bodyPost_ret (v := .agg #[.int .i64 4, .int .i64 0, .int .i64 3, .int .i64 0]) (by simp [results, Tryz.results28, go_sem, r0, r1, r2, r3]) rfl ⟨rfl, hr⟩
  · have d9 : (kt == 0) = false := by simpa using h0
    obtain ⟨h, hcase, hrm⟩ := HRM.out h0
    have HRN := Lib.hid hrm
    clear hrm h0
    rcases hcase with ⟨hh, rfl⟩ | ⟨hh, bi, rfl⟩
    · have dh : decide (0 ≤ h) = false := by simpa using hh
      have HRM4 : Hid (∀ W, St W g s → Calls Tryz.prog 64 #[vptr p, .int .i64 xm] W (fun e w2 => e = .returned (.tuple #[.int .i64 (max h 0), .bool false]) ∧ ∃ g2, To W g s w2 g2 s')) := Lib.hid fun W hW => (HRN.out W hW).mono (by rintro e w2 ⟨rfl, h1, _⟩; exact ⟨by rw [dh], h1 hh⟩)
      clear dh hh
      go_wp2_with (first
        | (go_at_call 63; refine (HTN.out _).mono ?_; rintro e w4 ⟨rfl, n8, hw4⟩; have H4 := Lib.hid ((H3.out.drewN nq).drewN n8); rw [← hw4] at H4; obtain ⟨⟨_, y3, y0, y1⟩, _⟩ := HLK.out w4 H4.out.st; clear hw4)
        | (go_at_call 64; refine (HRM4.out w4 H4.out.st).mono ?_; rintro e w5 ⟨rfl, g5, h5⟩; have HF := Lib.hid (Fin4.of HT1.out HBK.out HOWN.out (H4.out.trans h5)); obtain ⟨⟨d0, d1, d2, d3⟩, z0, z1, z2, z3⟩ := HF.out.cells; clear h5))
      obtain ⟨⟨r0, r1, r2, r3⟩, hr⟩ := HF.out.put HBE.out (.int .i64 4) (.int .i64 0) (.int .i64 4) (.int .i64 0)
      unfold put4 at r0 r1 r2 r3 hr
      exact bodyPost_ret (v := .agg #[.int .i64 4, .int .i64 0, .int .i64 4, .int .i64 0]) (by simp [results, Tryz.results28, go_sem, r0, r1, r2, r3]) rfl ⟨rfl, hr⟩
    · have dh : decide (0 ≤ h) = true := by simpa using hh
      have HRM4 : Hid (∀ W, St W g s → Calls Tryz.prog 64 #[vptr p, .int .i64 xm] W (fun e w2 => e = .returned (.tuple #[.int .i64 (max h 0), .bool true]) ∧ Calls Tryz.prog 65 #[vptr tq] w2 fun e w3 => (∃ v, e = .returned v) ∧ Calls Tryz.prog 66 #[vptr p, .int .i64 f, .int .i64 (max h 0)] w3 fun e w4 => ∃ bq, e = .returned (vptr bq) ∧
        Calls Tryz.prog 62 #[vptr p, .int .i64 f, vptr bq] w4 fun e w5 => e = .returned (.tuple #[]) ∧ w5.cell? ⟨bq, 0, none⟩ = some (.int .i64 bi) ∧ ∃ g5, To W g s w5 g5 s')) := Lib.hid fun W hW => (HRN.out W hW).mono (by rintro e w2 ⟨rfl, _, h1⟩; exact ⟨by rw [dh], h1 hh⟩)
      obtain ⟨h2, hh2⟩ : ∃ x, x = max h 0 := ⟨_, rfl⟩
      rw [← hh2] at HRM4
      clear dh hh hh2
      go_wp2_with (first
        | (go_at_call 63; refine (HTN.out _).mono ?_; rintro e w4 ⟨rfl, n8, hw4⟩; have H4 := Lib.hid ((H3.out.drewN nq).drewN n8); rw [← hw4] at H4; obtain ⟨⟨_, y3, y0, y1⟩, _⟩ := HLK.out w4 H4.out.st; clear hw4)
        | (go_at_call 64; refine (HRM4.out w4 H4.out.st).mono ?_; rintro e w5 ⟨rfl, h5⟩; have H5 := Lib.hid h5; clear h5)
        | (go_at_call 65; refine H5.out.mono ?_; rintro e w6 ⟨⟨v6, rfl⟩, h6⟩; have H6 := Lib.hid h6; clear h6)
        | (go_at_call 66; refine H6.out.mono ?_; rintro e w7 ⟨bq, rfl, h7⟩; have H7 := Lib.hid h7; clear h7)
        | (go_at_call 62; refine H7.out.mono ?_; rintro e w8 ⟨rfl, k0, g8, h8⟩; have HF := Lib.hid (Fin4.of HT1.out HBK.out HOWN.out (H4.out.trans h8)); obtain ⟨⟨d0, d1, d2, d3⟩, z0, z1, z2, z3⟩ := HF.out.cells; clear h8))
      obtain ⟨⟨r0, r1, r2, r3⟩, hr⟩ := HF.out.put HBE.out (.int .i64 3) (.int .i64 bi) (.int .i64 0) (.int .i64 0)
      unfold put4 at r0 r1 r2 r3 hr
      exact bodyPost_ret (v := .agg #[.int .i64 3, .int .i64 bi, .int .i64 0, .int .i64 0]) (by simp [results, Tryz.results28, go_sem, r0, r1, r2, r3]) rfl ⟨rfl, hr⟩
theorem call_fresh {w : World} {g : G} {s s' : Core} {p : Nat} {f : Int} {a : Ans} (hfr : ∀ k, w.heap.size ≤ k → g.own k = .none) (st : St w g s) (hp : g.ad .core = p) (hs : s.call f = some (a, s')) : Calls Tryz.prog 28 #[vptr p, .int .i64 f] w (Post a.val w g s s') := by
  by_cases hq : s.quota.ask f = 0
  · unfold Core.call at hs
    rw [hq] at hs
    simp only [show ¬ ((0 : Int) = -1) by decide, show ¬ ((0 : Int) = 1) by decide, show ¬ ((0 : Int) = 2) by decide, if_false] at hs
    cases hx : FM.get s.fns f with
    | none => rw [hx] at hs; cases hs
    | some x =>
      rw [hx] at hs
      simp only at hs
      cases hf : s.free f with
      | some b =>
        rw [hf] at hs
        simp only at hs
        obtain ⟨v, hv, e9⟩ := Option.map_eq_some_iff.1 hs
        cases e9
        exact call_warm hfr st hp hq hx hf hv
      | none =>
        rw [hf] at hs
        simp only at hs
        cases hk : FM.get s.toks x.acc with
        | none => rw [hk] at hs; cases hs
        | some k =>
          rw [hk] at hs
          exact call_cold hfr st hp hq hx hf hk hs
  · exact call_no hfr st hp hq hs
theorem call_any {w : World} {g : G} {s s' : Core} {p : Nat} {f : Int} {a : Ans} (st : St w g s) (hp : g.ad .core = p) (hs : s.call f = some (a, s')) : Calls Tryz.prog 28 #[vptr p, .int .i64 f] w (Post a.val w g s s') :=
  (call_fresh (fun _ hk => fresh_own hk) (To.fresh st).st hp hs).mono fun _ _ h => h.fresh st
end Go.Proofs.YtjmdgicdpggljaaGreat.GH
