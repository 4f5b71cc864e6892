/- Proved: what core's act leaves and answers. -/
import Derived.Test.YtjmdgicdpggljaaGreatM34
import Derived.Test.YtjmdgicdpggljaaGreatM32
set_option linter.all false
namespace Go.Proofs.YtjmdgicdpggljaaGreat.GH
open Go.RowKit Go.Maps Go.Sort Go.Shelf Go.Proofs.YtjmdgicdpggljaaGreat.Histo Go.Proofs.YtjmdgicdpggljaaGreat.Event Go.Proofs.YtjmdgicdpggljaaGreat.Ring
set_option linter.unusedVariables false
open Go.Proofs.YtjmdgicdpggljaaGreat.MapI (AL At Rng W64)
attribute [local go_sem] Oper.semAt_some

theorem told_some {q : Option (Int × Core)} {a : Ans} {s' : Core} (h : Core.told q = some (a, s')) : ∃ r, q = some (r, s') ∧ ((r ≠ 0 ∧ a = ⟨1, 0, 0, r⟩) ∨ (r = 0 ∧ a = ⟨0, 0, 0, 0⟩)) := by
  unfold Core.told at h
  obtain ⟨⟨r, t⟩, hr, e⟩ := Option.map_eq_some_iff.1 h
  simp only [Prod.mk.injEq] at e
  obtain ⟨e1, rfl⟩ := e
  refine ⟨r, hr, ?_⟩
  by_cases h0 : r = 0
  · rw [if_neg (by simpa using h0)] at e1
    exact .inr ⟨h0, e1.symm⟩
  · rw [if_pos h0] at e1
    exact .inl ⟨h0, e1.symm⟩
theorem inR_eq {x : Int} (h : inR x = true) : 0 ≤ x ∧ x ≤ 2147483647 := by
  unfold inR at h
  simpa using h
/-- What is known of an event that can be written. -/
theorem right_facts {e : Ev} (h : e.right = true) : (0 ≤ e.k ∧ e.k ≤ 9) ∧ (e.k ≠ 0 → 0 ≤ e.n ∧ e.n ≤ 2147483647) ∧ (e.k = 2 → 0 ≤ e.acct ∧ 0 ≤ e.keep) := by
  unfold Ev.right at h
  cases ho : offs e.k with
  | none => rw [ho] at h; cases h
  | some L =>
    rw [ho] at h
    simp only [Bool.and_eq_true, List.all_eq_true] at h
    obtain ⟨h1, _⟩ := h
    have hk : 0 ≤ e.k ∧ e.k ≤ 9 := by
      unfold offs at ho
      repeat' split at ho
      all_goals first | omega | cases ho
    refine ⟨hk, fun h0 => ?_, fun h2 => ?_⟩
    · have hm : 1 ∈ L := by
        unfold offs at ho
        repeat' split at ho
        all_goals first | (exact absurd (by assumption) h0) | (cases ho; simp) | cases ho
      exact inR_eq (h1 1 hm)
    · rw [h2] at ho
      have : L = [1, 5, 6, 7, 8, 9] := by unfold offs at ho; simpa using ho.symm
      subst this
      exact ⟨(inR_eq (h1 5 (by simp))).1, (inR_eq (h1 9 (by simp))).1⟩
/-- A host's cache that is there no more. -/
theorem To.cacheNone {w : World} {g : G} {s : Core} {q : Nat} {h : Int} (st : St w g s) (hh : 0 ≤ h ∧ h < 32) (hq : g.ad .caches = q) : ∃ w', (Instr.mapUpdate 51 (.map (some q)) (.int .i64 h) (.pointer none)).run Tryz.prog w = .ok () w' ∧ ToS (fun t => t = .caches) w g s w' { s with caches := FM.put s.caches h none } := by
  subst hq
  obtain ⟨ov, m⟩ := st.mem
  have wh : W64 h := MapI.w64 (by omega) (by omega)
  have hlen := caches_len st.good m.caches.sorted
  have hmx : (FM.vals (fun h c => cval (g.ad (.cache h)) c) s.caches).length < maxLen := by rw [FM.length_vals]; unfold maxLen; omega
  obtain ⟨w2, hrun, hm2, hg2, hs2⟩ := MapI.At.store (t := 51) m.caches.map (by kernel_rfl) Tryz.underlying51 hmx wh (.pointer none)
  have s1 : Step (fun t => t = .caches) w g w2 g := Step.of_grown hg2 (fun k e => by cases e; exact m.caches.lv.own)
  have hc : CachesAt w2 g (FM.put s.caches h none) := by
    refine ⟨⟨m.caches.lv.own, Nat.lt_of_lt_of_le m.caches.lv.lt s1.size⟩, ?_, fun k c hk => ?_⟩
    · have hm3 := Mp.of hm2
      rw [show MapI.put (FM.vals (fun h c => cval (g.ad (.cache h)) c) s.caches) h (.pointer none) = FM.vals (fun h c => cval (g.ad (.cache h)) c) (FM.put s.caches h none) from FM.put_vals (fun h c => cval (g.ad (.cache h)) c) s.caches h none] at hm3
      exact hm3
    · rw [FM.get_put] at hk
      by_cases e : k = h
      · rw [if_pos e] at hk; cases hk
      · rw [if_neg e] at hk
        exact (m.caches.each k c hk).step s1 (by simp) (by simp) (by simp) (by simp)
  have gd := st.good
  refine ⟨w2, hrun, ToS.mk' (m.turn s1 { s with caches := FM.put s.caches h none } ov (fun _ _ => rfl) (caches := .inr hc)) ⟨gd.now, gd.next, gd.toks, gd.fns, fun k c hk => ?_, gd.boxes, gd.til, gd.ans, gd.outs⟩ s1 (by simp) (fun t ht => ht)⟩
  have hk2 : FM.get (FM.put s.caches h none) k = some c := hk
  rw [FM.get_put] at hk2
  by_cases e : k = h
  · subst e; exact hh
  · rw [if_neg e] at hk2; exact gd.caches k c hk2
theorem add_ok0 {s : Hosts} {h size : Int} (e : (s.add h size).1 = 0) : 0 ≤ h ∧ h < 32 := by
  unfold Hosts.add at e
  split at e
  · cases e
  · next h1 => omega
theorem add_no {s : Hosts} {h size : Int} (e : (s.add h size).1 ≠ 0) : (s.add h size).2 = s := by
  unfold Hosts.add at e ⊢
  split
  · rfl
  · next h1 =>
    rw [if_neg h1] at e
    split
    · rfl
    · next h2 => rw [if_neg h2] at e; exact absurd rfl e
/-- Behind the two blocks that act makes. -/
structure Act0 (w w2 : World) (g : G) (s : Core) (B1 B2 : Nat) (ev : Array Value) : Prop where
  to_ : To w g s w2 g s
  b1 : Blk w2 B1 28 ev
  b2 : Blk w2 B2 34 #[.int .i64 0, .int .i64 0, .int .i64 0, .int .i64 0]
  o1 : g.own B1 = .none
  o2 : g.own B2 = .none
  h2 : w.heap.size ≤ B2
  below : Below w.heap.size w w2
theorem act0 {w : World} {g : G} {s : Core} (hfr : ∀ k, w.heap.size ≤ k → g.own k = .none) (st : St w g s) (ev : Array Value) : Act0 w ((w.alloc (.cells ev 28)).alloc (.cells #[.int .i64 0, .int .i64 0, .int .i64 0, .int .i64 0] 34)) g s w.heap.size (w.heap.size + 1) ev := by
  have hb1 := (Below.refl w.heap.size w).alloc (Nat.le_refl _) (.cells ev 28)
  have hb2 := hb1.alloc (by rw [World.size_alloc]; omega) (.cells #[.int .i64 0, .int .i64 0, .int .i64 0, .int .i64 0] 34)
  have e1 : (w.alloc (.cells ev 28)).heap.size = w.heap.size + 1 := World.size_alloc _ _
  have hk := Blk.new (w.alloc (.cells ev 28)) 34 #[.int .i64 0, .int .i64 0, .int .i64 0, .int .i64 0]
  rw [e1] at hk
  exact ⟨To.below st hb2, (Blk.new w 28 ev).alloc _, hk, hfr _ (Nat.le_refl _), hfr _ (Nat.le_succ _), Nat.le_succ _, hb2⟩
theorem Act0.fin {w w2 W : World} {g g' : G} {s t : Core} {B1 B2 : Nat} {ev : Array Value} (h : Act0 w w2 g s B1 B2 ev) (k : To w2 g s W g' t) : Fin4 w g s B2 t W := Fin4.of h.to_ h.b2 h.o2 k
set_option maxRecDepth 100000 in
set_option maxHeartbeats 8000000 in
theorem act_1e {w : World} {g : G} {s s' : Core} {p : Nat} {k n lim sz rf ac me co re ke : Int} {r : Int} (hfr : ∀ k, w.heap.size ≤ k → g.own k = .none) (st : St w g s) (hp : g.ad .core = p) (hk : k = 1) (hr : r ≠ 0) (hs1 : r = (s.account ⟨1, n, lim, sz, rf, ac, me, co, re, ke⟩).1) (hs2 : s' = (s.account ⟨1, n, lim, sz, rf, ac, me, co, re, ke⟩).2) : Calls Tryz.prog 15 #[vptr p, (Ev.val ⟨k, n, lim, sz, rf, ac, me, co, re, ke⟩)] w (Post (Ans.val ⟨1, 0, 0, r⟩) w g s s') := by
  unfold Ev.val Ans.val
  simp only
  have H0 := Lib.hid (act0 hfr st #[.int .i64 k, .int .i64 n, .int .i64 lim, .int .i64 sz, .int .i64 rf, .int .i64 ac, .int .i64 me, .int .i64 co, .int .i64 re, .int .i64 ke])
  have HC : Hid (∀ W, St W g s → Calls Tryz.prog 22 #[vptr p, .agg #[.int .i64 1, .int .i64 n, .int .i64 lim, .int .i64 sz, .int .i64 rf, .int .i64 ac, .int .i64 me, .int .i64 co, .int .i64 re, .int .i64 ke]] W (Post (.int .i64 r) W g s s')) := Lib.hid fun W hW => by
    subst hk; rw [hs1, hs2]; exact account_any (e := ⟨1, n, lim, sz, rf, ac, me, co, re, ke⟩) hW hp
  clear hfr st hp hs1 hs2
  subst hk
  go_enter Tryz.func15, Tryz.ntmps15
  go_upto_region 1 with (fail)
  generalize (w.alloc (.cells #[.int .i64 1, .int .i64 n, .int .i64 lim, .int .i64 sz, .int .i64 rf, .int .i64 ac, .int .i64 me, .int .i64 co, .int .i64 re, .int .i64 ke] 28)).alloc (.cells #[.int .i64 0, .int .i64 0, .int .i64 0, .int .i64 0] 34) = w2 at H0 ⊢
  obtain ⟨B1, hB1⟩ : ∃ B, B = w.heap.size := ⟨_, rfl⟩
  obtain ⟨B2, hB2⟩ : ∃ B, B = w.heap.size + 1 := ⟨_, rfl⟩
  rw [← hB2, ← hB1] at H0 ⊢
  clear hB1 hB2
  have e0 : w2.cell? ⟨B1, 0, none⟩ = some (.int .i64 1) := H0.out.b1.cell 0
  have e1 : w2.cell? ⟨B1, 1, none⟩ = some (.int .i64 n) := H0.out.b1.cell 1
  have e2 : w2.cell? ⟨B1, 2, none⟩ = some (.int .i64 lim) := H0.out.b1.cell 2
  have e3 : w2.cell? ⟨B1, 3, none⟩ = some (.int .i64 sz) := H0.out.b1.cell 3
  have e4 : w2.cell? ⟨B1, 4, none⟩ = some (.int .i64 rf) := H0.out.b1.cell 4
  have e5 : w2.cell? ⟨B1, 5, none⟩ = some (.int .i64 ac) := H0.out.b1.cell 5
  have e6 : w2.cell? ⟨B1, 6, none⟩ = some (.int .i64 me) := H0.out.b1.cell 6
  have e7 : w2.cell? ⟨B1, 7, none⟩ = some (.int .i64 co) := H0.out.b1.cell 7
  have e8 : w2.cell? ⟨B1, 8, none⟩ = some (.int .i64 re) := H0.out.b1.cell 8
  have e9 : w2.cell? ⟨B1, 9, none⟩ = some (.int .i64 ke) := H0.out.b1.cell 9
  have b1 : (r == 0) = false := by simpa using hr
  have b2 : (r != 0) = true := by simpa using hr
  clear hr
  have HC2 : Hid (Calls Tryz.prog 22 #[vptr p, .agg #[.int .i64 1, .int .i64 n, .int .i64 lim, .int .i64 sz, .int .i64 rf, .int .i64 ac, .int .i64 me, .int .i64 co, .int .i64 re, .int .i64 ke]] w2 (Post (.int .i64 r) w2 g s s')) := Lib.hid (HC.out w2 H0.out.to_.st)
  go_wp2_with (go_at_call 22; refine HC2.out.mono ?_; rintro e w3 ⟨rfl, g3, h3⟩; have HF := Lib.hid (H0.out.fin h3); obtain ⟨⟨d0, d1, d2, d3⟩, z0, z1, z2, z3⟩ := HF.out.cells; clear h3)
  obtain ⟨⟨r0, r1, r2, r3⟩, hr⟩ := HF.out.put H0.out.h2 (.int .i64 1) (.int .i64 0) (.int .i64 0) (.int .i64 r)
  unfold put4 at r0 r1 r2 r3 hr
  exact bodyPost_ret (v := .agg #[.int .i64 1, .int .i64 0, .int .i64 0, .int .i64 r]) (by simp [results, Tryz.results15, go_sem, r0, r1, r2, r3]) rfl ⟨rfl, hr⟩
set_option maxRecDepth 100000 in
set_option maxHeartbeats 8000000 in
theorem act_1o {w : World} {g : G} {s s' : Core} {p : Nat} {k n lim sz rf ac me co re ke : Int} {r : Int} (hfr : ∀ k, w.heap.size ≤ k → g.own k = .none) (st : St w g s) (hp : g.ad .core = p) (hk : k = 1) (hr : r = 0) (hs1 : r = (s.account ⟨1, n, lim, sz, rf, ac, me, co, re, ke⟩).1) (hs2 : s' = (s.account ⟨1, n, lim, sz, rf, ac, me, co, re, ke⟩).2) : Calls Tryz.prog 15 #[vptr p, (Ev.val ⟨k, n, lim, sz, rf, ac, me, co, re, ke⟩)] w (Post (Ans.val ⟨0, 0, 0, 0⟩) w g s s') := by
  unfold Ev.val Ans.val
  simp only
  have H0 := Lib.hid (act0 hfr st #[.int .i64 k, .int .i64 n, .int .i64 lim, .int .i64 sz, .int .i64 rf, .int .i64 ac, .int .i64 me, .int .i64 co, .int .i64 re, .int .i64 ke])
  have HC : Hid (∀ W, St W g s → Calls Tryz.prog 22 #[vptr p, .agg #[.int .i64 1, .int .i64 n, .int .i64 lim, .int .i64 sz, .int .i64 rf, .int .i64 ac, .int .i64 me, .int .i64 co, .int .i64 re, .int .i64 ke]] W (Post (.int .i64 r) W g s s')) := Lib.hid fun W hW => by
    subst hk; rw [hs1, hs2]; exact account_any (e := ⟨1, n, lim, sz, rf, ac, me, co, re, ke⟩) hW hp
  clear hfr st hp hs1 hs2
  subst hk
  go_enter Tryz.func15, Tryz.ntmps15
  go_upto_region 1 with (fail)
  generalize (w.alloc (.cells #[.int .i64 1, .int .i64 n, .int .i64 lim, .int .i64 sz, .int .i64 rf, .int .i64 ac, .int .i64 me, .int .i64 co, .int .i64 re, .int .i64 ke] 28)).alloc (.cells #[.int .i64 0, .int .i64 0, .int .i64 0, .int .i64 0] 34) = w2 at H0 ⊢
  obtain ⟨B1, hB1⟩ : ∃ B, B = w.heap.size := ⟨_, rfl⟩
  obtain ⟨B2, hB2⟩ : ∃ B, B = w.heap.size + 1 := ⟨_, rfl⟩
  rw [← hB2, ← hB1] at H0 ⊢
  clear hB1 hB2
  have e0 : w2.cell? ⟨B1, 0, none⟩ = some (.int .i64 1) := H0.out.b1.cell 0
  have e1 : w2.cell? ⟨B1, 1, none⟩ = some (.int .i64 n) := H0.out.b1.cell 1
  have e2 : w2.cell? ⟨B1, 2, none⟩ = some (.int .i64 lim) := H0.out.b1.cell 2
  have e3 : w2.cell? ⟨B1, 3, none⟩ = some (.int .i64 sz) := H0.out.b1.cell 3
  have e4 : w2.cell? ⟨B1, 4, none⟩ = some (.int .i64 rf) := H0.out.b1.cell 4
  have e5 : w2.cell? ⟨B1, 5, none⟩ = some (.int .i64 ac) := H0.out.b1.cell 5
  have e6 : w2.cell? ⟨B1, 6, none⟩ = some (.int .i64 me) := H0.out.b1.cell 6
  have e7 : w2.cell? ⟨B1, 7, none⟩ = some (.int .i64 co) := H0.out.b1.cell 7
  have e8 : w2.cell? ⟨B1, 8, none⟩ = some (.int .i64 re) := H0.out.b1.cell 8
  have e9 : w2.cell? ⟨B1, 9, none⟩ = some (.int .i64 ke) := H0.out.b1.cell 9
  subst hr
  have HC2 : Hid (Calls Tryz.prog 22 #[vptr p, .agg #[.int .i64 1, .int .i64 n, .int .i64 lim, .int .i64 sz, .int .i64 rf, .int .i64 ac, .int .i64 me, .int .i64 co, .int .i64 re, .int .i64 ke]] w2 (Post (.int .i64 0) w2 g s s')) := Lib.hid (HC.out w2 H0.out.to_.st)
  go_wp2_with (go_at_call 22; refine HC2.out.mono ?_; rintro e w3 ⟨rfl, g3, h3⟩; have HF := Lib.hid (H0.out.fin h3); obtain ⟨⟨d0, d1, d2, d3⟩, z0, z1, z2, z3⟩ := HF.out.cells; clear h3)
  obtain ⟨⟨r0, r1, r2, r3⟩, hr⟩ := HF.out.put H0.out.h2 (.int .i64 0) (.int .i64 0) (.int .i64 0) (.int .i64 0)
  unfold put4 at r0 r1 r2 r3 hr
  exact bodyPost_ret (v := .agg #[.int .i64 0, .int .i64 0, .int .i64 0, .int .i64 0]) (by simp [results, Tryz.results15, go_sem, r0, r1, r2, r3]) rfl ⟨rfl, hr⟩
set_option maxRecDepth 100000 in
set_option maxHeartbeats 8000000 in
theorem act_2e {w : World} {g : G} {s s' : Core} {p : Nat} {k n lim sz rf ac me co re ke : Int} {r : Int} (hfr : ∀ k, w.heap.size ≤ k → g.own k = .none) (st : St w g s) (hp : g.ad .core = p) (hk : k = 2) (hr : r ≠ 0) (hn : 0 ≤ n ∧ n ≤ 2147483647) (ha : 0 ≤ ac) (hke : 0 ≤ ke) (hs : s.function ⟨2, n, lim, sz, rf, ac, me, co, re, ke⟩ = some (r, s')) : Calls Tryz.prog 15 #[vptr p, (Ev.val ⟨k, n, lim, sz, rf, ac, me, co, re, ke⟩)] w (Post (Ans.val ⟨1, 0, 0, r⟩) w g s s') := by
  unfold Ev.val Ans.val
  simp only
  have H0 := Lib.hid (act0 hfr st #[.int .i64 k, .int .i64 n, .int .i64 lim, .int .i64 sz, .int .i64 rf, .int .i64 ac, .int .i64 me, .int .i64 co, .int .i64 re, .int .i64 ke])
  have HC : Hid (∀ W, St W g s → Calls Tryz.prog 23 #[vptr p, .agg #[.int .i64 2, .int .i64 n, .int .i64 lim, .int .i64 sz, .int .i64 rf, .int .i64 ac, .int .i64 me, .int .i64 co, .int .i64 re, .int .i64 ke]] W (Post (.int .i64 r) W g s s')) := Lib.hid fun W hW => function_any (e := ⟨2, n, lim, sz, rf, ac, me, co, re, ke⟩) hW hp hn ha hke hs
  clear hfr st hp hn ha hke hs
  subst hk
  go_enter Tryz.func15, Tryz.ntmps15
  go_upto_region 1 with (fail)
  generalize (w.alloc (.cells #[.int .i64 2, .int .i64 n, .int .i64 lim, .int .i64 sz, .int .i64 rf, .int .i64 ac, .int .i64 me, .int .i64 co, .int .i64 re, .int .i64 ke] 28)).alloc (.cells #[.int .i64 0, .int .i64 0, .int .i64 0, .int .i64 0] 34) = w2 at H0 ⊢
  obtain ⟨B1, hB1⟩ : ∃ B, B = w.heap.size := ⟨_, rfl⟩
  obtain ⟨B2, hB2⟩ : ∃ B, B = w.heap.size + 1 := ⟨_, rfl⟩
  rw [← hB2, ← hB1] at H0 ⊢
  clear hB1 hB2
  have e0 : w2.cell? ⟨B1, 0, none⟩ = some (.int .i64 2) := H0.out.b1.cell 0
  have e1 : w2.cell? ⟨B1, 1, none⟩ = some (.int .i64 n) := H0.out.b1.cell 1
  have e2 : w2.cell? ⟨B1, 2, none⟩ = some (.int .i64 lim) := H0.out.b1.cell 2
  have e3 : w2.cell? ⟨B1, 3, none⟩ = some (.int .i64 sz) := H0.out.b1.cell 3
  have e4 : w2.cell? ⟨B1, 4, none⟩ = some (.int .i64 rf) := H0.out.b1.cell 4
  have e5 : w2.cell? ⟨B1, 5, none⟩ = some (.int .i64 ac) := H0.out.b1.cell 5
  have e6 : w2.cell? ⟨B1, 6, none⟩ = some (.int .i64 me) := H0.out.b1.cell 6
  have e7 : w2.cell? ⟨B1, 7, none⟩ = some (.int .i64 co) := H0.out.b1.cell 7
  have e8 : w2.cell? ⟨B1, 8, none⟩ = some (.int .i64 re) := H0.out.b1.cell 8
  have e9 : w2.cell? ⟨B1, 9, none⟩ = some (.int .i64 ke) := H0.out.b1.cell 9
  have b1 : (r == 0) = false := by simpa using hr
  have b2 : (r != 0) = true := by simpa using hr
  clear hr
  have HC2 : Hid (Calls Tryz.prog 23 #[vptr p, .agg #[.int .i64 2, .int .i64 n, .int .i64 lim, .int .i64 sz, .int .i64 rf, .int .i64 ac, .int .i64 me, .int .i64 co, .int .i64 re, .int .i64 ke]] w2 (Post (.int .i64 r) w2 g s s')) := Lib.hid (HC.out w2 H0.out.to_.st)
  go_wp2_with (go_at_call 23; refine HC2.out.mono ?_; rintro e w3 ⟨rfl, g3, h3⟩; have HF := Lib.hid (H0.out.fin h3); obtain ⟨⟨d0, d1, d2, d3⟩, z0, z1, z2, z3⟩ := HF.out.cells; clear h3)
  obtain ⟨⟨r0, r1, r2, r3⟩, hr⟩ := HF.out.put H0.out.h2 (.int .i64 1) (.int .i64 0) (.int .i64 0) (.int .i64 r)
  unfold put4 at r0 r1 r2 r3 hr
  exact bodyPost_ret (v := .agg #[.int .i64 1, .int .i64 0, .int .i64 0, .int .i64 r]) (by simp [results, Tryz.results15, go_sem, r0, r1, r2, r3]) rfl ⟨rfl, hr⟩
set_option maxRecDepth 100000 in
set_option maxHeartbeats 8000000 in
theorem act_2o {w : World} {g : G} {s s' : Core} {p : Nat} {k n lim sz rf ac me co re ke : Int} {r : Int} (hfr : ∀ k, w.heap.size ≤ k → g.own k = .none) (st : St w g s) (hp : g.ad .core = p) (hk : k = 2) (hr : r = 0) (hn : 0 ≤ n ∧ n ≤ 2147483647) (ha : 0 ≤ ac) (hke : 0 ≤ ke) (hs : s.function ⟨2, n, lim, sz, rf, ac, me, co, re, ke⟩ = some (r, s')) : Calls Tryz.prog 15 #[vptr p, (Ev.val ⟨k, n, lim, sz, rf, ac, me, co, re, ke⟩)] w (Post (Ans.val ⟨0, 0, 0, 0⟩) w g s s') := by
  unfold Ev.val Ans.val
  simp only
  have H0 := Lib.hid (act0 hfr st #[.int .i64 k, .int .i64 n, .int .i64 lim, .int .i64 sz, .int .i64 rf, .int .i64 ac, .int .i64 me, .int .i64 co, .int .i64 re, .int .i64 ke])
  have HC : Hid (∀ W, St W g s → Calls Tryz.prog 23 #[vptr p, .agg #[.int .i64 2, .int .i64 n, .int .i64 lim, .int .i64 sz, .int .i64 rf, .int .i64 ac, .int .i64 me, .int .i64 co, .int .i64 re, .int .i64 ke]] W (Post (.int .i64 r) W g s s')) := Lib.hid fun W hW => function_any (e := ⟨2, n, lim, sz, rf, ac, me, co, re, ke⟩) hW hp hn ha hke hs
  clear hfr st hp hn ha hke hs
  subst hk
  go_enter Tryz.func15, Tryz.ntmps15
  go_upto_region 1 with (fail)
  generalize (w.alloc (.cells #[.int .i64 2, .int .i64 n, .int .i64 lim, .int .i64 sz, .int .i64 rf, .int .i64 ac, .int .i64 me, .int .i64 co, .int .i64 re, .int .i64 ke] 28)).alloc (.cells #[.int .i64 0, .int .i64 0, .int .i64 0, .int .i64 0] 34) = w2 at H0 ⊢
  obtain ⟨B1, hB1⟩ : ∃ B, B = w.heap.size := ⟨_, rfl⟩
  obtain ⟨B2, hB2⟩ : ∃ B, B = w.heap.size + 1 := ⟨_, rfl⟩
  rw [← hB2, ← hB1] at H0 ⊢
  clear hB1 hB2
  have e0 : w2.cell? ⟨B1, 0, none⟩ = some (.int .i64 2) := H0.out.b1.cell 0
  have e1 : w2.cell? ⟨B1, 1, none⟩ = some (.int .i64 n) := H0.out.b1.cell 1
  have e2 : w2.cell? ⟨B1, 2, none⟩ = some (.int .i64 lim) := H0.out.b1.cell 2
  have e3 : w2.cell? ⟨B1, 3, none⟩ = some (.int .i64 sz) := H0.out.b1.cell 3
  have e4 : w2.cell? ⟨B1, 4, none⟩ = some (.int .i64 rf) := H0.out.b1.cell 4
  have e5 : w2.cell? ⟨B1, 5, none⟩ = some (.int .i64 ac) := H0.out.b1.cell 5
  have e6 : w2.cell? ⟨B1, 6, none⟩ = some (.int .i64 me) := H0.out.b1.cell 6
  have e7 : w2.cell? ⟨B1, 7, none⟩ = some (.int .i64 co) := H0.out.b1.cell 7
  have e8 : w2.cell? ⟨B1, 8, none⟩ = some (.int .i64 re) := H0.out.b1.cell 8
  have e9 : w2.cell? ⟨B1, 9, none⟩ = some (.int .i64 ke) := H0.out.b1.cell 9
  subst hr
  have HC2 : Hid (Calls Tryz.prog 23 #[vptr p, .agg #[.int .i64 2, .int .i64 n, .int .i64 lim, .int .i64 sz, .int .i64 rf, .int .i64 ac, .int .i64 me, .int .i64 co, .int .i64 re, .int .i64 ke]] w2 (Post (.int .i64 0) w2 g s s')) := Lib.hid (HC.out w2 H0.out.to_.st)
  go_wp2_with (go_at_call 23; refine HC2.out.mono ?_; rintro e w3 ⟨rfl, g3, h3⟩; have HF := Lib.hid (H0.out.fin h3); obtain ⟨⟨d0, d1, d2, d3⟩, z0, z1, z2, z3⟩ := HF.out.cells; clear h3)
  obtain ⟨⟨r0, r1, r2, r3⟩, hr⟩ := HF.out.put H0.out.h2 (.int .i64 0) (.int .i64 0) (.int .i64 0) (.int .i64 0)
  unfold put4 at r0 r1 r2 r3 hr
  exact bodyPost_ret (v := .agg #[.int .i64 0, .int .i64 0, .int .i64 0, .int .i64 0]) (by simp [results, Tryz.results15, go_sem, r0, r1, r2, r3]) rfl ⟨rfl, hr⟩
set_option maxRecDepth 100000 in
set_option maxHeartbeats 8000000 in
theorem act_4e {w : World} {g : G} {s s' : Core} {p : Nat} {k n lim sz rf ac me co re ke : Int} {r : Int} (hfr : ∀ k, w.heap.size ≤ k → g.own k = .none) (st : St w g s) (hp : g.ad .core = p) (hk : k = 4) (hr : r ≠ 0) (hs : s.drain n = some (r, s')) : Calls Tryz.prog 15 #[vptr p, (Ev.val ⟨k, n, lim, sz, rf, ac, me, co, re, ke⟩)] w (Post (Ans.val ⟨1, 0, 0, r⟩) w g s s') := by
  unfold Ev.val Ans.val
  simp only
  have H0 := Lib.hid (act0 hfr st #[.int .i64 k, .int .i64 n, .int .i64 lim, .int .i64 sz, .int .i64 rf, .int .i64 ac, .int .i64 me, .int .i64 co, .int .i64 re, .int .i64 ke])
  have HC : Hid (∀ W, St W g s → Calls Tryz.prog 26 #[vptr p, .int .i64 n] W (Post (.int .i64 r) W g s s')) := Lib.hid fun W hW => drain_any hW hp hs
  clear hfr st hp hs
  subst hk
  go_enter Tryz.func15, Tryz.ntmps15
  go_upto_region 1 with (fail)
  generalize (w.alloc (.cells #[.int .i64 4, .int .i64 n, .int .i64 lim, .int .i64 sz, .int .i64 rf, .int .i64 ac, .int .i64 me, .int .i64 co, .int .i64 re, .int .i64 ke] 28)).alloc (.cells #[.int .i64 0, .int .i64 0, .int .i64 0, .int .i64 0] 34) = w2 at H0 ⊢
  obtain ⟨B1, hB1⟩ : ∃ B, B = w.heap.size := ⟨_, rfl⟩
  obtain ⟨B2, hB2⟩ : ∃ B, B = w.heap.size + 1 := ⟨_, rfl⟩
  rw [← hB2, ← hB1] at H0 ⊢
  clear hB1 hB2
  have e0 : w2.cell? ⟨B1, 0, none⟩ = some (.int .i64 4) := H0.out.b1.cell 0
  have e1 : w2.cell? ⟨B1, 1, none⟩ = some (.int .i64 n) := H0.out.b1.cell 1
  have b1 : (r == 0) = false := by simpa using hr
  have b2 : (r != 0) = true := by simpa using hr
  clear hr
  have HC2 : Hid (Calls Tryz.prog 26 #[vptr p, .int .i64 n] w2 (Post (.int .i64 r) w2 g s s')) := Lib.hid (HC.out w2 H0.out.to_.st)
  go_wp2_with (go_at_call 26; refine HC2.out.mono ?_; rintro e w3 ⟨rfl, g3, h3⟩; have HF := Lib.hid (H0.out.fin h3); obtain ⟨⟨d0, d1, d2, d3⟩, z0, z1, z2, z3⟩ := HF.out.cells; clear h3)
  obtain ⟨⟨r0, r1, r2, r3⟩, hr⟩ := HF.out.put H0.out.h2 (.int .i64 1) (.int .i64 0) (.int .i64 0) (.int .i64 r)
  unfold put4 at r0 r1 r2 r3 hr
  exact bodyPost_ret (v := .agg #[.int .i64 1, .int .i64 0, .int .i64 0, .int .i64 r]) (by simp [results, Tryz.results15, go_sem, r0, r1, r2, r3]) rfl ⟨rfl, hr⟩
set_option maxRecDepth 100000 in
set_option maxHeartbeats 8000000 in
theorem act_4o {w : World} {g : G} {s s' : Core} {p : Nat} {k n lim sz rf ac me co re ke : Int} {r : Int} (hfr : ∀ k, w.heap.size ≤ k → g.own k = .none) (st : St w g s) (hp : g.ad .core = p) (hk : k = 4) (hr : r = 0) (hs : s.drain n = some (r, s')) : Calls Tryz.prog 15 #[vptr p, (Ev.val ⟨k, n, lim, sz, rf, ac, me, co, re, ke⟩)] w (Post (Ans.val ⟨0, 0, 0, 0⟩) w g s s') := by
  unfold Ev.val Ans.val
  simp only
  have H0 := Lib.hid (act0 hfr st #[.int .i64 k, .int .i64 n, .int .i64 lim, .int .i64 sz, .int .i64 rf, .int .i64 ac, .int .i64 me, .int .i64 co, .int .i64 re, .int .i64 ke])
  have HC : Hid (∀ W, St W g s → Calls Tryz.prog 26 #[vptr p, .int .i64 n] W (Post (.int .i64 r) W g s s')) := Lib.hid fun W hW => drain_any hW hp hs
  clear hfr st hp hs
  subst hk
  go_enter Tryz.func15, Tryz.ntmps15
  go_upto_region 1 with (fail)
  generalize (w.alloc (.cells #[.int .i64 4, .int .i64 n, .int .i64 lim, .int .i64 sz, .int .i64 rf, .int .i64 ac, .int .i64 me, .int .i64 co, .int .i64 re, .int .i64 ke] 28)).alloc (.cells #[.int .i64 0, .int .i64 0, .int .i64 0, .int .i64 0] 34) = w2 at H0 ⊢
  obtain ⟨B1, hB1⟩ : ∃ B, B = w.heap.size := ⟨_, rfl⟩
  obtain ⟨B2, hB2⟩ : ∃ B, B = w.heap.size + 1 := ⟨_, rfl⟩
  rw [← hB2, ← hB1] at H0 ⊢
  clear hB1 hB2
  have e0 : w2.cell? ⟨B1, 0, none⟩ = some (.int .i64 4) := H0.out.b1.cell 0
  have e1 : w2.cell? ⟨B1, 1, none⟩ = some (.int .i64 n) := H0.out.b1.cell 1
  subst hr
  have HC2 : Hid (Calls Tryz.prog 26 #[vptr p, .int .i64 n] w2 (Post (.int .i64 0) w2 g s s')) := Lib.hid (HC.out w2 H0.out.to_.st)
  go_wp2_with (go_at_call 26; refine HC2.out.mono ?_; rintro e w3 ⟨rfl, g3, h3⟩; have HF := Lib.hid (H0.out.fin h3); obtain ⟨⟨d0, d1, d2, d3⟩, z0, z1, z2, z3⟩ := HF.out.cells; clear h3)
  obtain ⟨⟨r0, r1, r2, r3⟩, hr⟩ := HF.out.put H0.out.h2 (.int .i64 0) (.int .i64 0) (.int .i64 0) (.int .i64 0)
  unfold put4 at r0 r1 r2 r3 hr
  exact bodyPost_ret (v := .agg #[.int .i64 0, .int .i64 0, .int .i64 0, .int .i64 0]) (by simp [results, Tryz.results15, go_sem, r0, r1, r2, r3]) rfl ⟨rfl, hr⟩
set_option maxRecDepth 100000 in
set_option maxHeartbeats 8000000 in
theorem act_5e {w : World} {g : G} {s s' : Core} {p : Nat} {k n lim sz rf ac me co re ke : Int} {r : Int} (hfr : ∀ k, w.heap.size ≤ k → g.own k = .none) (st : St w g s) (hp : g.ad .core = p) (hk : k = 5) (hr : r ≠ 0) (hs : s.fail n = some (r, s')) : Calls Tryz.prog 15 #[vptr p, (Ev.val ⟨k, n, lim, sz, rf, ac, me, co, re, ke⟩)] w (Post (Ans.val ⟨1, 0, 0, r⟩) w g s s') := by
  unfold Ev.val Ans.val
  simp only
  have H0 := Lib.hid (act0 hfr st #[.int .i64 k, .int .i64 n, .int .i64 lim, .int .i64 sz, .int .i64 rf, .int .i64 ac, .int .i64 me, .int .i64 co, .int .i64 re, .int .i64 ke])
  have HC : Hid (∀ W, St W g s → Calls Tryz.prog 27 #[vptr p, .int .i64 n] W (Post (.int .i64 r) W g s s')) := Lib.hid fun W hW => fail_any hW hp hs
  clear hfr st hp hs
  subst hk
  go_enter Tryz.func15, Tryz.ntmps15
  go_upto_region 1 with (fail)
  generalize (w.alloc (.cells #[.int .i64 5, .int .i64 n, .int .i64 lim, .int .i64 sz, .int .i64 rf, .int .i64 ac, .int .i64 me, .int .i64 co, .int .i64 re, .int .i64 ke] 28)).alloc (.cells #[.int .i64 0, .int .i64 0, .int .i64 0, .int .i64 0] 34) = w2 at H0 ⊢
  obtain ⟨B1, hB1⟩ : ∃ B, B = w.heap.size := ⟨_, rfl⟩
  obtain ⟨B2, hB2⟩ : ∃ B, B = w.heap.size + 1 := ⟨_, rfl⟩
  rw [← hB2, ← hB1] at H0 ⊢
  clear hB1 hB2
  have e0 : w2.cell? ⟨B1, 0, none⟩ = some (.int .i64 5) := H0.out.b1.cell 0
  have e1 : w2.cell? ⟨B1, 1, none⟩ = some (.int .i64 n) := H0.out.b1.cell 1
  have b1 : (r == 0) = false := by simpa using hr
  have b2 : (r != 0) = true := by simpa using hr
  clear hr
  have HC2 : Hid (Calls Tryz.prog 27 #[vptr p, .int .i64 n] w2 (Post (.int .i64 r) w2 g s s')) := Lib.hid (HC.out w2 H0.out.to_.st)
  go_wp2_with (go_at_call 27; refine HC2.out.mono ?_; rintro e w3 ⟨rfl, g3, h3⟩; have HF := Lib.hid (H0.out.fin h3); obtain ⟨⟨d0, d1, d2, d3⟩, z0, z1, z2, z3⟩ := HF.out.cells; clear h3)
  obtain ⟨⟨r0, r1, r2, r3⟩, hr⟩ := HF.out.put H0.out.h2 (.int .i64 1) (.int .i64 0) (.int .i64 0) (.int .i64 r)
  unfold put4 at r0 r1 r2 r3 hr
  exact bodyPost_ret (v := .agg #[.int .i64 1, .int .i64 0, .int .i64 0, .int .i64 r]) (by simp [results, Tryz.results15, go_sem, r0, r1, r2, r3]) rfl ⟨rfl, hr⟩
set_option maxRecDepth 100000 in
set_option maxHeartbeats 8000000 in
theorem act_5o {w : World} {g : G} {s s' : Core} {p : Nat} {k n lim sz rf ac me co re ke : Int} {r : Int} (hfr : ∀ k, w.heap.size ≤ k → g.own k = .none) (st : St w g s) (hp : g.ad .core = p) (hk : k = 5) (hr : r = 0) (hs : s.fail n = some (r, s')) : Calls Tryz.prog 15 #[vptr p, (Ev.val ⟨k, n, lim, sz, rf, ac, me, co, re, ke⟩)] w (Post (Ans.val ⟨0, 0, 0, 0⟩) w g s s') := by
  unfold Ev.val Ans.val
  simp only
  have H0 := Lib.hid (act0 hfr st #[.int .i64 k, .int .i64 n, .int .i64 lim, .int .i64 sz, .int .i64 rf, .int .i64 ac, .int .i64 me, .int .i64 co, .int .i64 re, .int .i64 ke])
  have HC : Hid (∀ W, St W g s → Calls Tryz.prog 27 #[vptr p, .int .i64 n] W (Post (.int .i64 r) W g s s')) := Lib.hid fun W hW => fail_any hW hp hs
  clear hfr st hp hs
  subst hk
  go_enter Tryz.func15, Tryz.ntmps15
  go_upto_region 1 with (fail)
  generalize (w.alloc (.cells #[.int .i64 5, .int .i64 n, .int .i64 lim, .int .i64 sz, .int .i64 rf, .int .i64 ac, .int .i64 me, .int .i64 co, .int .i64 re, .int .i64 ke] 28)).alloc (.cells #[.int .i64 0, .int .i64 0, .int .i64 0, .int .i64 0] 34) = w2 at H0 ⊢
  obtain ⟨B1, hB1⟩ : ∃ B, B = w.heap.size := ⟨_, rfl⟩
  obtain ⟨B2, hB2⟩ : ∃ B, B = w.heap.size + 1 := ⟨_, rfl⟩
  rw [← hB2, ← hB1] at H0 ⊢
  clear hB1 hB2
  have e0 : w2.cell? ⟨B1, 0, none⟩ = some (.int .i64 5) := H0.out.b1.cell 0
  have e1 : w2.cell? ⟨B1, 1, none⟩ = some (.int .i64 n) := H0.out.b1.cell 1
  subst hr
  have HC2 : Hid (Calls Tryz.prog 27 #[vptr p, .int .i64 n] w2 (Post (.int .i64 0) w2 g s s')) := Lib.hid (HC.out w2 H0.out.to_.st)
  go_wp2_with (go_at_call 27; refine HC2.out.mono ?_; rintro e w3 ⟨rfl, g3, h3⟩; have HF := Lib.hid (H0.out.fin h3); obtain ⟨⟨d0, d1, d2, d3⟩, z0, z1, z2, z3⟩ := HF.out.cells; clear h3)
  obtain ⟨⟨r0, r1, r2, r3⟩, hr⟩ := HF.out.put H0.out.h2 (.int .i64 0) (.int .i64 0) (.int .i64 0) (.int .i64 0)
  unfold put4 at r0 r1 r2 r3 hr
  exact bodyPost_ret (v := .agg #[.int .i64 0, .int .i64 0, .int .i64 0, .int .i64 0]) (by simp [results, Tryz.results15, go_sem, r0, r1, r2, r3]) rfl ⟨rfl, hr⟩
set_option maxRecDepth 100000 in
set_option maxHeartbeats 8000000 in
theorem act_7e {w : World} {g : G} {s s' : Core} {p : Nat} {k n lim sz rf ac me co re ke : Int} {r : Int} (hfr : ∀ k, w.heap.size ≤ k → g.own k = .none) (st : St w g s) (hp : g.ad .core = p) (hk : k = 7) (hr : r ≠ 0) (hn : W64 n) (hs : s.booted n = some (r, s')) : Calls Tryz.prog 15 #[vptr p, (Ev.val ⟨k, n, lim, sz, rf, ac, me, co, re, ke⟩)] w (Post (Ans.val ⟨1, 0, 0, r⟩) w g s s') := by
  unfold Ev.val Ans.val
  simp only
  have H0 := Lib.hid (act0 hfr st #[.int .i64 k, .int .i64 n, .int .i64 lim, .int .i64 sz, .int .i64 rf, .int .i64 ac, .int .i64 me, .int .i64 co, .int .i64 re, .int .i64 ke])
  have HC : Hid (∀ W, St W g s → Calls Tryz.prog 29 #[vptr p, .int .i64 n] W (Post (.int .i64 r) W g s s')) := Lib.hid fun W hW => booted_any' hW hp hn hs
  clear hfr st hp hn hs
  subst hk
  go_enter Tryz.func15, Tryz.ntmps15
  go_upto_region 1 with (fail)
  generalize (w.alloc (.cells #[.int .i64 7, .int .i64 n, .int .i64 lim, .int .i64 sz, .int .i64 rf, .int .i64 ac, .int .i64 me, .int .i64 co, .int .i64 re, .int .i64 ke] 28)).alloc (.cells #[.int .i64 0, .int .i64 0, .int .i64 0, .int .i64 0] 34) = w2 at H0 ⊢
  obtain ⟨B1, hB1⟩ : ∃ B, B = w.heap.size := ⟨_, rfl⟩
  obtain ⟨B2, hB2⟩ : ∃ B, B = w.heap.size + 1 := ⟨_, rfl⟩
  rw [← hB2, ← hB1] at H0 ⊢
  clear hB1 hB2
  have e0 : w2.cell? ⟨B1, 0, none⟩ = some (.int .i64 7) := H0.out.b1.cell 0
  have e1 : w2.cell? ⟨B1, 1, none⟩ = some (.int .i64 n) := H0.out.b1.cell 1
  have b1 : (r == 0) = false := by simpa using hr
  have b2 : (r != 0) = true := by simpa using hr
  clear hr
  have HC2 : Hid (Calls Tryz.prog 29 #[vptr p, .int .i64 n] w2 (Post (.int .i64 r) w2 g s s')) := Lib.hid (HC.out w2 H0.out.to_.st)
  go_wp2_with (go_at_call 29; refine HC2.out.mono ?_; rintro e w3 ⟨rfl, g3, h3⟩; have HF := Lib.hid (H0.out.fin h3); obtain ⟨⟨d0, d1, d2, d3⟩, z0, z1, z2, z3⟩ := HF.out.cells; clear h3)
  obtain ⟨⟨r0, r1, r2, r3⟩, hr⟩ := HF.out.put H0.out.h2 (.int .i64 1) (.int .i64 0) (.int .i64 0) (.int .i64 r)
  unfold put4 at r0 r1 r2 r3 hr
  exact bodyPost_ret (v := .agg #[.int .i64 1, .int .i64 0, .int .i64 0, .int .i64 r]) (by simp [results, Tryz.results15, go_sem, r0, r1, r2, r3]) rfl ⟨rfl, hr⟩
set_option maxRecDepth 100000 in
set_option maxHeartbeats 8000000 in
theorem act_7o {w : World} {g : G} {s s' : Core} {p : Nat} {k n lim sz rf ac me co re ke : Int} {r : Int} (hfr : ∀ k, w.heap.size ≤ k → g.own k = .none) (st : St w g s) (hp : g.ad .core = p) (hk : k = 7) (hr : r = 0) (hn : W64 n) (hs : s.booted n = some (r, s')) : Calls Tryz.prog 15 #[vptr p, (Ev.val ⟨k, n, lim, sz, rf, ac, me, co, re, ke⟩)] w (Post (Ans.val ⟨0, 0, 0, 0⟩) w g s s') := by
  unfold Ev.val Ans.val
  simp only
  have H0 := Lib.hid (act0 hfr st #[.int .i64 k, .int .i64 n, .int .i64 lim, .int .i64 sz, .int .i64 rf, .int .i64 ac, .int .i64 me, .int .i64 co, .int .i64 re, .int .i64 ke])
  have HC : Hid (∀ W, St W g s → Calls Tryz.prog 29 #[vptr p, .int .i64 n] W (Post (.int .i64 r) W g s s')) := Lib.hid fun W hW => booted_any' hW hp hn hs
  clear hfr st hp hn hs
  subst hk
  go_enter Tryz.func15, Tryz.ntmps15
  go_upto_region 1 with (fail)
  generalize (w.alloc (.cells #[.int .i64 7, .int .i64 n, .int .i64 lim, .int .i64 sz, .int .i64 rf, .int .i64 ac, .int .i64 me, .int .i64 co, .int .i64 re, .int .i64 ke] 28)).alloc (.cells #[.int .i64 0, .int .i64 0, .int .i64 0, .int .i64 0] 34) = w2 at H0 ⊢
  obtain ⟨B1, hB1⟩ : ∃ B, B = w.heap.size := ⟨_, rfl⟩
  obtain ⟨B2, hB2⟩ : ∃ B, B = w.heap.size + 1 := ⟨_, rfl⟩
  rw [← hB2, ← hB1] at H0 ⊢
  clear hB1 hB2
  have e0 : w2.cell? ⟨B1, 0, none⟩ = some (.int .i64 7) := H0.out.b1.cell 0
  have e1 : w2.cell? ⟨B1, 1, none⟩ = some (.int .i64 n) := H0.out.b1.cell 1
  subst hr
  have HC2 : Hid (Calls Tryz.prog 29 #[vptr p, .int .i64 n] w2 (Post (.int .i64 0) w2 g s s')) := Lib.hid (HC.out w2 H0.out.to_.st)
  go_wp2_with (go_at_call 29; refine HC2.out.mono ?_; rintro e w3 ⟨rfl, g3, h3⟩; have HF := Lib.hid (H0.out.fin h3); obtain ⟨⟨d0, d1, d2, d3⟩, z0, z1, z2, z3⟩ := HF.out.cells; clear h3)
  obtain ⟨⟨r0, r1, r2, r3⟩, hr⟩ := HF.out.put H0.out.h2 (.int .i64 0) (.int .i64 0) (.int .i64 0) (.int .i64 0)
  unfold put4 at r0 r1 r2 r3 hr
  exact bodyPost_ret (v := .agg #[.int .i64 0, .int .i64 0, .int .i64 0, .int .i64 0]) (by simp [results, Tryz.results15, go_sem, r0, r1, r2, r3]) rfl ⟨rfl, hr⟩
set_option maxRecDepth 100000 in
set_option maxHeartbeats 8000000 in
theorem act_8e {w : World} {g : G} {s s' : Core} {p : Nat} {k n lim sz rf ac me co re ke : Int} {r : Int} (hfr : ∀ k, w.heap.size ≤ k → g.own k = .none) (st : St w g s) (hp : g.ad .core = p) (hk : k = 8) (hr : r ≠ 0) (hn : W64 n) (hs : s.broke n = some (r, s')) : Calls Tryz.prog 15 #[vptr p, (Ev.val ⟨k, n, lim, sz, rf, ac, me, co, re, ke⟩)] w (Post (Ans.val ⟨1, 0, 0, r⟩) w g s s') := by
  unfold Ev.val Ans.val
  simp only
  have H0 := Lib.hid (act0 hfr st #[.int .i64 k, .int .i64 n, .int .i64 lim, .int .i64 sz, .int .i64 rf, .int .i64 ac, .int .i64 me, .int .i64 co, .int .i64 re, .int .i64 ke])
  have HC : Hid (∀ W, St W g s → Calls Tryz.prog 30 #[vptr p, .int .i64 n] W (Post (.int .i64 r) W g s s')) := Lib.hid fun W hW => broke_any hW hp hn hs
  clear hfr st hp hn hs
  subst hk
  go_enter Tryz.func15, Tryz.ntmps15
  go_upto_region 1 with (fail)
  generalize (w.alloc (.cells #[.int .i64 8, .int .i64 n, .int .i64 lim, .int .i64 sz, .int .i64 rf, .int .i64 ac, .int .i64 me, .int .i64 co, .int .i64 re, .int .i64 ke] 28)).alloc (.cells #[.int .i64 0, .int .i64 0, .int .i64 0, .int .i64 0] 34) = w2 at H0 ⊢
  obtain ⟨B1, hB1⟩ : ∃ B, B = w.heap.size := ⟨_, rfl⟩
  obtain ⟨B2, hB2⟩ : ∃ B, B = w.heap.size + 1 := ⟨_, rfl⟩
  rw [← hB2, ← hB1] at H0 ⊢
  clear hB1 hB2
  have e0 : w2.cell? ⟨B1, 0, none⟩ = some (.int .i64 8) := H0.out.b1.cell 0
  have e1 : w2.cell? ⟨B1, 1, none⟩ = some (.int .i64 n) := H0.out.b1.cell 1
  have b1 : (r == 0) = false := by simpa using hr
  have b2 : (r != 0) = true := by simpa using hr
  clear hr
  have HC2 : Hid (Calls Tryz.prog 30 #[vptr p, .int .i64 n] w2 (Post (.int .i64 r) w2 g s s')) := Lib.hid (HC.out w2 H0.out.to_.st)
  go_wp2_with (go_at_call 30; refine HC2.out.mono ?_; rintro e w3 ⟨rfl, g3, h3⟩; have HF := Lib.hid (H0.out.fin h3); obtain ⟨⟨d0, d1, d2, d3⟩, z0, z1, z2, z3⟩ := HF.out.cells; clear h3)
  obtain ⟨⟨r0, r1, r2, r3⟩, hr⟩ := HF.out.put H0.out.h2 (.int .i64 1) (.int .i64 0) (.int .i64 0) (.int .i64 r)
  unfold put4 at r0 r1 r2 r3 hr
  exact bodyPost_ret (v := .agg #[.int .i64 1, .int .i64 0, .int .i64 0, .int .i64 r]) (by simp [results, Tryz.results15, go_sem, r0, r1, r2, r3]) rfl ⟨rfl, hr⟩
set_option maxRecDepth 100000 in
set_option maxHeartbeats 8000000 in
theorem act_8o {w : World} {g : G} {s s' : Core} {p : Nat} {k n lim sz rf ac me co re ke : Int} {r : Int} (hfr : ∀ k, w.heap.size ≤ k → g.own k = .none) (st : St w g s) (hp : g.ad .core = p) (hk : k = 8) (hr : r = 0) (hn : W64 n) (hs : s.broke n = some (r, s')) : Calls Tryz.prog 15 #[vptr p, (Ev.val ⟨k, n, lim, sz, rf, ac, me, co, re, ke⟩)] w (Post (Ans.val ⟨0, 0, 0, 0⟩) w g s s') := by
  unfold Ev.val Ans.val
  simp only
  have H0 := Lib.hid (act0 hfr st #[.int .i64 k, .int .i64 n, .int .i64 lim, .int .i64 sz, .int .i64 rf, .int .i64 ac, .int .i64 me, .int .i64 co, .int .i64 re, .int .i64 ke])
  have HC : Hid (∀ W, St W g s → Calls Tryz.prog 30 #[vptr p, .int .i64 n] W (Post (.int .i64 r) W g s s')) := Lib.hid fun W hW => broke_any hW hp hn hs
  clear hfr st hp hn hs
  subst hk
  go_enter Tryz.func15, Tryz.ntmps15
  go_upto_region 1 with (fail)
  generalize (w.alloc (.cells #[.int .i64 8, .int .i64 n, .int .i64 lim, .int .i64 sz, .int .i64 rf, .int .i64 ac, .int .i64 me, .int .i64 co, .int .i64 re, .int .i64 ke] 28)).alloc (.cells #[.int .i64 0, .int .i64 0, .int .i64 0, .int .i64 0] 34) = w2 at H0 ⊢
  obtain ⟨B1, hB1⟩ : ∃ B, B = w.heap.size := ⟨_, rfl⟩
  obtain ⟨B2, hB2⟩ : ∃ B, B = w.heap.size + 1 := ⟨_, rfl⟩
  rw [← hB2, ← hB1] at H0 ⊢
  clear hB1 hB2
  have e0 : w2.cell? ⟨B1, 0, none⟩ = some (.int .i64 8) := H0.out.b1.cell 0
  have e1 : w2.cell? ⟨B1, 1, none⟩ = some (.int .i64 n) := H0.out.b1.cell 1
  subst hr
  have HC2 : Hid (Calls Tryz.prog 30 #[vptr p, .int .i64 n] w2 (Post (.int .i64 0) w2 g s s')) := Lib.hid (HC.out w2 H0.out.to_.st)
  go_wp2_with (go_at_call 30; refine HC2.out.mono ?_; rintro e w3 ⟨rfl, g3, h3⟩; have HF := Lib.hid (H0.out.fin h3); obtain ⟨⟨d0, d1, d2, d3⟩, z0, z1, z2, z3⟩ := HF.out.cells; clear h3)
  obtain ⟨⟨r0, r1, r2, r3⟩, hr⟩ := HF.out.put H0.out.h2 (.int .i64 0) (.int .i64 0) (.int .i64 0) (.int .i64 0)
  unfold put4 at r0 r1 r2 r3 hr
  exact bodyPost_ret (v := .agg #[.int .i64 0, .int .i64 0, .int .i64 0, .int .i64 0]) (by simp [results, Tryz.results15, go_sem, r0, r1, r2, r3]) rfl ⟨rfl, hr⟩
set_option maxRecDepth 100000 in
set_option maxHeartbeats 8000000 in
theorem act_9e {w : World} {g : G} {s s' : Core} {p : Nat} {k n lim sz rf ac me co re ke : Int} {r : Int} (hfr : ∀ k, w.heap.size ≤ k → g.own k = .none) (st : St w g s) (hp : g.ad .core = p) (hk : k = 9) (hr : r ≠ 0) (hn : W64 n) (hs : s.done n = some (r, s')) : Calls Tryz.prog 15 #[vptr p, (Ev.val ⟨k, n, lim, sz, rf, ac, me, co, re, ke⟩)] w (Post (Ans.val ⟨1, 0, 0, r⟩) w g s s') := by
  unfold Ev.val Ans.val
  simp only
  have H0 := Lib.hid (act0 hfr st #[.int .i64 k, .int .i64 n, .int .i64 lim, .int .i64 sz, .int .i64 rf, .int .i64 ac, .int .i64 me, .int .i64 co, .int .i64 re, .int .i64 ke])
  have HC : Hid (∀ W, St W g s → Calls Tryz.prog 31 #[vptr p, .int .i64 n] W (Post (.int .i64 r) W g s s')) := Lib.hid fun W hW => done_any hW hp hn hs
  clear hfr st hp hn hs
  subst hk
  go_enter Tryz.func15, Tryz.ntmps15
  go_upto_region 1 with (fail)
  generalize (w.alloc (.cells #[.int .i64 9, .int .i64 n, .int .i64 lim, .int .i64 sz, .int .i64 rf, .int .i64 ac, .int .i64 me, .int .i64 co, .int .i64 re, .int .i64 ke] 28)).alloc (.cells #[.int .i64 0, .int .i64 0, .int .i64 0, .int .i64 0] 34) = w2 at H0 ⊢
  obtain ⟨B1, hB1⟩ : ∃ B, B = w.heap.size := ⟨_, rfl⟩
  obtain ⟨B2, hB2⟩ : ∃ B, B = w.heap.size + 1 := ⟨_, rfl⟩
  rw [← hB2, ← hB1] at H0 ⊢
  clear hB1 hB2
  have e0 : w2.cell? ⟨B1, 0, none⟩ = some (.int .i64 9) := H0.out.b1.cell 0
  have e1 : w2.cell? ⟨B1, 1, none⟩ = some (.int .i64 n) := H0.out.b1.cell 1
  have b1 : (r == 0) = false := by simpa using hr
  have b2 : (r != 0) = true := by simpa using hr
  clear hr
  have HC2 : Hid (Calls Tryz.prog 31 #[vptr p, .int .i64 n] w2 (Post (.int .i64 r) w2 g s s')) := Lib.hid (HC.out w2 H0.out.to_.st)
  go_wp2_with (go_at_call 31; refine HC2.out.mono ?_; rintro e w3 ⟨rfl, g3, h3⟩; have HF := Lib.hid (H0.out.fin h3); obtain ⟨⟨d0, d1, d2, d3⟩, z0, z1, z2, z3⟩ := HF.out.cells; clear h3)
  obtain ⟨⟨r0, r1, r2, r3⟩, hr⟩ := HF.out.put H0.out.h2 (.int .i64 1) (.int .i64 0) (.int .i64 0) (.int .i64 r)
  unfold put4 at r0 r1 r2 r3 hr
  exact bodyPost_ret (v := .agg #[.int .i64 1, .int .i64 0, .int .i64 0, .int .i64 r]) (by simp [results, Tryz.results15, go_sem, r0, r1, r2, r3]) rfl ⟨rfl, hr⟩
set_option maxRecDepth 100000 in
set_option maxHeartbeats 8000000 in
theorem act_9o {w : World} {g : G} {s s' : Core} {p : Nat} {k n lim sz rf ac me co re ke : Int} {r : Int} (hfr : ∀ k, w.heap.size ≤ k → g.own k = .none) (st : St w g s) (hp : g.ad .core = p) (hk : k = 9) (hr : r = 0) (hn : W64 n) (hs : s.done n = some (r, s')) : Calls Tryz.prog 15 #[vptr p, (Ev.val ⟨k, n, lim, sz, rf, ac, me, co, re, ke⟩)] w (Post (Ans.val ⟨0, 0, 0, 0⟩) w g s s') := by
  unfold Ev.val Ans.val
  simp only
  have H0 := Lib.hid (act0 hfr st #[.int .i64 k, .int .i64 n, .int .i64 lim, .int .i64 sz, .int .i64 rf, .int .i64 ac, .int .i64 me, .int .i64 co, .int .i64 re, .int .i64 ke])
  have HC : Hid (∀ W, St W g s → Calls Tryz.prog 31 #[vptr p, .int .i64 n] W (Post (.int .i64 r) W g s s')) := Lib.hid fun W hW => done_any hW hp hn hs
  clear hfr st hp hn hs
  subst hk
  go_enter Tryz.func15, Tryz.ntmps15
  go_upto_region 1 with (fail)
  generalize (w.alloc (.cells #[.int .i64 9, .int .i64 n, .int .i64 lim, .int .i64 sz, .int .i64 rf, .int .i64 ac, .int .i64 me, .int .i64 co, .int .i64 re, .int .i64 ke] 28)).alloc (.cells #[.int .i64 0, .int .i64 0, .int .i64 0, .int .i64 0] 34) = w2 at H0 ⊢
  obtain ⟨B1, hB1⟩ : ∃ B, B = w.heap.size := ⟨_, rfl⟩
  obtain ⟨B2, hB2⟩ : ∃ B, B = w.heap.size + 1 := ⟨_, rfl⟩
  rw [← hB2, ← hB1] at H0 ⊢
  clear hB1 hB2
  have e0 : w2.cell? ⟨B1, 0, none⟩ = some (.int .i64 9) := H0.out.b1.cell 0
  have e1 : w2.cell? ⟨B1, 1, none⟩ = some (.int .i64 n) := H0.out.b1.cell 1
  subst hr
  have HC2 : Hid (Calls Tryz.prog 31 #[vptr p, .int .i64 n] w2 (Post (.int .i64 0) w2 g s s')) := Lib.hid (HC.out w2 H0.out.to_.st)
  go_wp2_with (go_at_call 31; refine HC2.out.mono ?_; rintro e w3 ⟨rfl, g3, h3⟩; have HF := Lib.hid (H0.out.fin h3); obtain ⟨⟨d0, d1, d2, d3⟩, z0, z1, z2, z3⟩ := HF.out.cells; clear h3)
  obtain ⟨⟨r0, r1, r2, r3⟩, hr⟩ := HF.out.put H0.out.h2 (.int .i64 0) (.int .i64 0) (.int .i64 0) (.int .i64 0)
  unfold put4 at r0 r1 r2 r3 hr
  exact bodyPost_ret (v := .agg #[.int .i64 0, .int .i64 0, .int .i64 0, .int .i64 0]) (by simp [results, Tryz.results15, go_sem, r0, r1, r2, r3]) rfl ⟨rfl, hr⟩
set_option maxRecDepth 100000 in
set_option maxHeartbeats 8000000 in
theorem act_0 {w : World} {g : G} {s s' : Core} {p : Nat} {k n lim sz rf ac me co re ke : Int} (hfr : ∀ k, w.heap.size ≤ k → g.own k = .none) (st : St w g s) (hp : g.ad .core = p) (hk : k = 0) (hs : s.tick = some s') : Calls Tryz.prog 15 #[vptr p, (Ev.val ⟨k, n, lim, sz, rf, ac, me, co, re, ke⟩)] w (Post (Ans.val ⟨0, 0, 0, 0⟩) w g s s') := by
  unfold Ev.val Ans.val
  simp only
  have H0 := Lib.hid (act0 hfr st #[.int .i64 k, .int .i64 n, .int .i64 lim, .int .i64 sz, .int .i64 rf, .int .i64 ac, .int .i64 me, .int .i64 co, .int .i64 re, .int .i64 ke])
  have HC : Hid (∀ W, St W g s → Calls Tryz.prog 21 #[vptr p] W (Post (.tuple #[]) W g s s')) := Lib.hid fun W hW => tick_any hW hp hs
  clear hfr st hp hs
  subst hk
  go_enter Tryz.func15, Tryz.ntmps15
  go_upto_region 1 with (fail)
  generalize (w.alloc (.cells #[.int .i64 0, .int .i64 n, .int .i64 lim, .int .i64 sz, .int .i64 rf, .int .i64 ac, .int .i64 me, .int .i64 co, .int .i64 re, .int .i64 ke] 28)).alloc (.cells #[.int .i64 0, .int .i64 0, .int .i64 0, .int .i64 0] 34) = w2 at H0 ⊢
  obtain ⟨B1, hB1⟩ : ∃ B, B = w.heap.size := ⟨_, rfl⟩
  obtain ⟨B2, hB2⟩ : ∃ B, B = w.heap.size + 1 := ⟨_, rfl⟩
  rw [← hB2, ← hB1] at H0 ⊢
  clear hB1 hB2
  have e0 : w2.cell? ⟨B1, 0, none⟩ = some (.int .i64 0) := H0.out.b1.cell 0
  have e1 : w2.cell? ⟨B1, 1, none⟩ = some (.int .i64 n) := H0.out.b1.cell 1
  have HC2 : Hid (Calls Tryz.prog 21 #[vptr p] w2 (Post (.tuple #[]) w2 g s s')) := Lib.hid (HC.out w2 H0.out.to_.st)
  go_wp2_with (go_at_call 21; refine HC2.out.mono ?_; rintro e w3 ⟨rfl, g3, h3⟩; have HF := Lib.hid (H0.out.fin h3); obtain ⟨⟨d0, d1, d2, d3⟩, z0, z1, z2, z3⟩ := HF.out.cells; clear h3)
  obtain ⟨⟨r0, r1, r2, r3⟩, hr⟩ := HF.out.put H0.out.h2 (.int .i64 0) (.int .i64 0) (.int .i64 0) (.int .i64 0)
  unfold put4 at r0 r1 r2 r3 hr
  exact bodyPost_ret (v := .agg #[.int .i64 0, .int .i64 0, .int .i64 0, .int .i64 0]) (by simp [results, Tryz.results15, go_sem, r0, r1, r2, r3]) rfl ⟨rfl, hr⟩
set_option maxRecDepth 100000 in
set_option maxHeartbeats 8000000 in
theorem act_6 {w : World} {g : G} {s s' : Core} {p : Nat} {k n lim sz rf ac me co re ke : Int} {a : Ans} (hfr : ∀ k, w.heap.size ≤ k → g.own k = .none) (st : St w g s) (hp : g.ad .core = p) (hk : k = 6) (hs : s.call n = some (a, s')) : Calls Tryz.prog 15 #[vptr p, (Ev.val ⟨k, n, lim, sz, rf, ac, me, co, re, ke⟩)] w (Post (Ans.val a) w g s s') := by
  unfold Ev.val Ans.val
  simp only
  have H0 := Lib.hid (act0 hfr st #[.int .i64 k, .int .i64 n, .int .i64 lim, .int .i64 sz, .int .i64 rf, .int .i64 ac, .int .i64 me, .int .i64 co, .int .i64 re, .int .i64 ke])
  have HC : Hid (∀ W, St W g s → Calls Tryz.prog 28 #[vptr p, .int .i64 n] W (Post a.val W g s s')) := Lib.hid fun W hW => call_any hW hp hs
  clear hfr st hp hs
  subst hk
  go_enter Tryz.func15, Tryz.ntmps15
  go_upto_region 1 with (fail)
  generalize (w.alloc (.cells #[.int .i64 6, .int .i64 n, .int .i64 lim, .int .i64 sz, .int .i64 rf, .int .i64 ac, .int .i64 me, .int .i64 co, .int .i64 re, .int .i64 ke] 28)).alloc (.cells #[.int .i64 0, .int .i64 0, .int .i64 0, .int .i64 0] 34) = w2 at H0 ⊢
  obtain ⟨B1, hB1⟩ : ∃ B, B = w.heap.size := ⟨_, rfl⟩
  obtain ⟨B2, hB2⟩ : ∃ B, B = w.heap.size + 1 := ⟨_, rfl⟩
  rw [← hB2, ← hB1] at H0 ⊢
  clear hB1 hB2
  have e0 : w2.cell? ⟨B1, 0, none⟩ = some (.int .i64 6) := H0.out.b1.cell 0
  have e1 : w2.cell? ⟨B1, 1, none⟩ = some (.int .i64 n) := H0.out.b1.cell 1
  have HC2 : Hid (Calls Tryz.prog 28 #[vptr p, .int .i64 n] w2 (Post a.val w2 g s s')) := Lib.hid (HC.out w2 H0.out.to_.st)
  obtain ⟨x0, x1, x2, x3⟩ := a
  unfold Ans.val at HC2
  simp only at HC2 ⊢
  go_wp2_with (go_at_call 28; refine HC2.out.mono ?_; rintro e w3 ⟨rfl, g3, h3⟩; have HF := Lib.hid (H0.out.fin h3); obtain ⟨⟨d0, d1, d2, d3⟩, z0, z1, z2, z3⟩ := HF.out.cells; clear h3)
  obtain ⟨⟨r0, r1, r2, r3⟩, hr⟩ := HF.out.put H0.out.h2 (.int .i64 x0) (.int .i64 x1) (.int .i64 x2) (.int .i64 x3)
  unfold put4 at r0 r1 r2 r3 hr
  exact bodyPost_ret (v := .agg #[.int .i64 x0, .int .i64 x1, .int .i64 x2, .int .i64 x3]) (by simp [results, Tryz.results15, go_sem, r0, r1, r2, r3]) rfl ⟨rfl, hr⟩
set_option maxRecDepth 100000 in
set_option maxHeartbeats 8000000 in
theorem act_3e {w : World} {g : G} {s s' : Core} {p : Nat} {k n lim sz rf ac me co re ke : Int} (hfr : ∀ k, w.heap.size ≤ k → g.own k = .none) (st : St w g s) (hp : g.ad .core = p) (hk : k = 3) (hr : (s.hosts.add n sz).1 ≠ 0) (hs2 : s' = s) : Calls Tryz.prog 15 #[vptr p, (Ev.val ⟨k, n, lim, sz, rf, ac, me, co, re, ke⟩)] w (Post (Ans.val ⟨1, 0, 0, (s.hosts.add n sz).1⟩) w g s s') := by
  unfold Ev.val Ans.val
  simp only
  have H0 := Lib.hid (act0 hfr st #[.int .i64 k, .int .i64 n, .int .i64 lim, .int .i64 sz, .int .i64 rf, .int .i64 ac, .int .i64 me, .int .i64 co, .int .i64 re, .int .i64 ke])
  obtain ⟨hm, hhm⟩ : ∃ t, g.ad .hosts = t := ⟨_, rfl⟩
  obtain ⟨cm, hcm⟩ : ∃ t, g.ad .caches = t := ⟨_, rfl⟩
  have hadd := fun W (hW : St W g s) => hadd_use hW hhm n sz
  have hno := add_no hr
  obtain ⟨r, hrr⟩ : ∃ r, r = (s.hosts.add n sz).1 := ⟨_, rfl⟩
  rw [← hrr] at hr hadd ⊢
  rw [hno] at hadd
  have HC : Hid (∀ W, St W g s → W.cell? ⟨p, 5, none⟩ = some (vptr hm) ∧ Calls Tryz.prog 24 #[vptr hm, .int .i64 n, .int .i64 sz] W (Post (.int .i64 r) W g s s')) := Lib.hid fun W hW => by
    refine ⟨hW.hosts hp hhm, (hadd W hW).mono ?_⟩
    rintro e w3 ⟨he, h3⟩
    rw [hs2]
    exact ⟨he, g, h3.all⟩
  clear hadd hno hrr hs2 hhm hcm
  clear hfr st hp
  subst hk
  go_enter Tryz.func15, Tryz.ntmps15
  go_upto_region 1 with (fail)
  generalize (w.alloc (.cells #[.int .i64 3, .int .i64 n, .int .i64 lim, .int .i64 sz, .int .i64 rf, .int .i64 ac, .int .i64 me, .int .i64 co, .int .i64 re, .int .i64 ke] 28)).alloc (.cells #[.int .i64 0, .int .i64 0, .int .i64 0, .int .i64 0] 34) = w2 at H0 ⊢
  obtain ⟨B1, hB1⟩ : ∃ B, B = w.heap.size := ⟨_, rfl⟩
  obtain ⟨B2, hB2⟩ : ∃ B, B = w.heap.size + 1 := ⟨_, rfl⟩
  rw [← hB2, ← hB1] at H0 ⊢
  clear hB1 hB2
  have e0 : w2.cell? ⟨B1, 0, none⟩ = some (.int .i64 3) := H0.out.b1.cell 0
  have e1 : w2.cell? ⟨B1, 1, none⟩ = some (.int .i64 n) := H0.out.b1.cell 1
  have e3 : w2.cell? ⟨B1, 3, none⟩ = some (.int .i64 sz) := H0.out.b1.cell 3
  have b1 : (r == 0) = false := by simpa using hr
  have b2 : (r != 0) = true := by simpa using hr
  clear hr
  obtain ⟨c5, _⟩ := HC.out w2 H0.out.to_.st
  have HC2 : Hid (Calls Tryz.prog 24 #[vptr hm, .int .i64 n, .int .i64 sz] w2.drew (Post (.int .i64 r) w2.drew g s s')) := Lib.hid (HC.out w2.drew H0.out.to_.st.drew).2
  go_wp2
  go_still_tail 8, (by kernel_rfl)
  change wpList _ _ _ _ _ w2.drew
  go_wp2_with (go_at_call 24; refine HC2.out.mono ?_; rintro e w3 ⟨rfl, g3, h3⟩; have HF := Lib.hid (H0.out.fin ((To.refl H0.out.to_.st).drew.trans h3)); obtain ⟨⟨d0, d1, d2, d3⟩, z0, z1, z2, z3⟩ := HF.out.cells; clear h3)
  obtain ⟨⟨r0, r1, r2, r3⟩, hr⟩ := HF.out.put H0.out.h2 (.int .i64 1) (.int .i64 0) (.int .i64 0) (.int .i64 r)
  unfold put4 at r0 r1 r2 r3 hr
  exact bodyPost_ret (v := .agg #[.int .i64 1, .int .i64 0, .int .i64 0, .int .i64 r]) (by simp [results, Tryz.results15, go_sem, r0, r1, r2, r3]) rfl ⟨rfl, hr⟩
set_option maxRecDepth 100000 in
set_option maxHeartbeats 8000000 in
theorem act_3o {w : World} {g : G} {s s' : Core} {p : Nat} {k n lim sz rf ac me co re ke : Int} (hfr : ∀ k, w.heap.size ≤ k → g.own k = .none) (st : St w g s) (hp : g.ad .core = p) (hk : k = 3) (hr : (s.hosts.add n sz).1 = 0) (hs : ({ s with hosts := (s.hosts.add n sz).2, caches := FM.put s.caches n none } : Core).keepAll = some s') : Calls Tryz.prog 15 #[vptr p, (Ev.val ⟨k, n, lim, sz, rf, ac, me, co, re, ke⟩)] w (Post (Ans.val ⟨0, 0, 0, 0⟩) w g s s') := by
  unfold Ev.val Ans.val
  simp only
  have H0 := Lib.hid (act0 hfr st #[.int .i64 k, .int .i64 n, .int .i64 lim, .int .i64 sz, .int .i64 rf, .int .i64 ac, .int .i64 me, .int .i64 co, .int .i64 re, .int .i64 ke])
  obtain ⟨hm, hhm⟩ : ∃ t, g.ad .hosts = t := ⟨_, rfl⟩
  obtain ⟨cm, hcm⟩ : ∃ t, g.ad .caches = t := ⟨_, rfl⟩
  have hadd := fun W (hW : St W g s) => hadd_use hW hhm n sz
  have HC : Hid (∀ W, St W g s → ∀ B1, Blk W B1 28 #[.int .i64 3, .int .i64 n, .int .i64 lim, .int .i64 sz, .int .i64 rf, .int .i64 ac, .int .i64 me, .int .i64 co, .int .i64 re, .int .i64 ke] → g.own B1 = .none → W.cell? ⟨p, 5, none⟩ = some (vptr hm) ∧ Calls Tryz.prog 24 #[vptr hm, .int .i64 n, .int .i64 sz] W (fun e w3 => e = .returned (.int .i64 0) ∧ w3.cell? ⟨p, 6, none⟩ = some (.map (some cm)) ∧ w3.cell? ⟨B1, 1, none⟩ = some (.int .i64 n) ∧ ∃ w4, (Instr.mapUpdate 51 (.map (some cm)) (.int .i64 n) (.pointer none)).run Tryz.prog w3.drew = .ok () w4 ∧ Calls Tryz.prog 25 #[vptr p] w4 (Post (.tuple #[]) W g s s'))) := Lib.hid fun W hW B1 hB1 ho1 => by
    refine ⟨hW.hosts hp hhm, (hadd W hW).mono ?_⟩
    rintro e w3 ⟨he, h3⟩
    obtain ⟨w4, r4, h4⟩ := To.cacheNone (h := n) h3.use.drew (add_ok0 hr) hcm
    refine ⟨he.trans (by rw [hr]), h3.use.caches hp hcm, (h3.all.blk hB1 ho1).cell 1, w4, r4, ?_⟩
    refine (keepAll_any h4.use hp hs).mono ?_
    rintro e w5 ⟨he5, g5, h5⟩
    exact ⟨he5, g5, (h3.all.drew).trans (h4.all.trans h5)⟩
  clear hadd hhm hcm hs hr
  clear hfr st hp
  subst hk
  go_enter Tryz.func15, Tryz.ntmps15
  go_upto_region 1 with (fail)
  generalize (w.alloc (.cells #[.int .i64 3, .int .i64 n, .int .i64 lim, .int .i64 sz, .int .i64 rf, .int .i64 ac, .int .i64 me, .int .i64 co, .int .i64 re, .int .i64 ke] 28)).alloc (.cells #[.int .i64 0, .int .i64 0, .int .i64 0, .int .i64 0] 34) = w2 at H0 ⊢
  obtain ⟨B1, hB1⟩ : ∃ B, B = w.heap.size := ⟨_, rfl⟩
  obtain ⟨B2, hB2⟩ : ∃ B, B = w.heap.size + 1 := ⟨_, rfl⟩
  rw [← hB2, ← hB1] at H0 ⊢
  clear hB1 hB2
  have e0 : w2.cell? ⟨B1, 0, none⟩ = some (.int .i64 3) := H0.out.b1.cell 0
  have e1 : w2.cell? ⟨B1, 1, none⟩ = some (.int .i64 n) := H0.out.b1.cell 1
  have e3 : w2.cell? ⟨B1, 3, none⟩ = some (.int .i64 sz) := H0.out.b1.cell 3
  obtain ⟨c5, _⟩ := HC.out w2 H0.out.to_.st B1 H0.out.b1 H0.out.o1
  have HC2 := Lib.hid (HC.out w2.drew H0.out.to_.st.drew B1 H0.out.b1.drew H0.out.o1).2
  go_wp2
  go_still_tail 8, (by kernel_rfl)
  change wpList _ _ _ _ _ w2.drew
  go_wp2_with (go_at_call 24; refine HC2.out.mono ?_; rintro e w3 ⟨rfl, c6, f1, w4, hrun, hka⟩; have HKA := Lib.hid hka; clear hka)
  go_still_tail 6, (by kernel_rfl)
  change wpList _ _ _ _ _ w3.drew
  go_wp2_with (go_at_call 25; refine HKA.out.mono ?_; rintro e w5 ⟨rfl, g5, h5⟩; have HF := Lib.hid (H0.out.fin ((To.refl H0.out.to_.st).drew.trans h5)); obtain ⟨⟨d0, d1, d2, d3⟩, z0, z1, z2, z3⟩ := HF.out.cells; clear h5)
  obtain ⟨⟨r0, r1, r2, r3⟩, hr⟩ := HF.out.put H0.out.h2 (.int .i64 0) (.int .i64 0) (.int .i64 0) (.int .i64 0)
  unfold put4 at r0 r1 r2 r3 hr
  exact bodyPost_ret (v := .agg #[.int .i64 0, .int .i64 0, .int .i64 0, .int .i64 0]) (by simp [results, Tryz.results15, go_sem, r0, r1, r2, r3]) rfl ⟨rfl, hr⟩
theorem act_any {w : World} {g : G} {s s' : Core} {p : Nat} {e : Ev} {a : Ans} (st : St w g s) (hp : g.ad .core = p) (hr : e.right = true) (hs : s.act e = some (a, s')) : Calls Tryz.prog 15 #[vptr p, e.val] w (Post a.val w g s s') := by
  obtain ⟨⟨hk0, hk9⟩, hn, ha⟩ := right_facts hr
  have hfr : ∀ k, w.heap.size ≤ k → (g.fresh w.heap.size).own k = .none := fun _ hk => fresh_own hk
  have st' := (To.fresh st).st
  refine Calls.mono (R := Post a.val w (g.fresh w.heap.size) s s') ?_ (fun _ _ h => h.fresh st)
  have hp' : (g.fresh w.heap.size).ad .core = p := hp
  generalize g.fresh w.heap.size = g' at hfr st' hp' ⊢
  obtain ⟨k, n, lim, sz, rf, ac, me, co, re, ke⟩ := e
  simp only at hk0 hk9 hn ha
  unfold Core.act at hs
  simp only at hs
  have wn : k ≠ 0 → W64 n := fun h => MapI.w64 (by have := hn h; omega) (by have := hn h; omega)
  have hkk : k = 0 ∨ k = 1 ∨ k = 2 ∨ k = 3 ∨ k = 4 ∨ k = 5 ∨ k = 6 ∨ k = 7 ∨ k = 8 ∨ k = 9 := by omega
  rcases hkk with rfl | rfl | rfl | rfl | rfl | rfl | rfl | rfl | rfl | rfl
  · rw [if_pos rfl] at hs
    obtain ⟨r, h1, h2⟩ := told_some hs
    obtain ⟨t, ht, e⟩ := Option.map_eq_some_iff.1 h1
    cases e
    rcases h2 with ⟨h3, _⟩ | ⟨_, rfl⟩
    · exact absurd rfl h3
    · exact act_0 hfr st' hp' rfl ht
  · rw [if_neg (by decide), if_pos rfl] at hs
    obtain ⟨r, h1, h2⟩ := told_some hs
    have e1 := Option.some.inj h1
    rcases h2 with ⟨h3, rfl⟩ | ⟨h3, rfl⟩
    · exact act_1e hfr st' hp' rfl h3 (by rw [e1]) (by rw [e1])
    · exact act_1o hfr st' hp' rfl h3 (by rw [e1]) (by rw [e1])
  · rw [if_neg (by decide), if_neg (by decide), if_pos rfl] at hs
    obtain ⟨r, h1, h2⟩ := told_some hs
    rcases h2 with ⟨h3, rfl⟩ | ⟨h3, rfl⟩
    · exact act_2e hfr st' hp' rfl h3 (hn (by decide)) (ha rfl).1 (ha rfl).2 h1
    · exact act_2o hfr st' hp' rfl h3 (hn (by decide)) (ha rfl).1 (ha rfl).2 h1
  · simp only [show ¬ ((3 : Int) = 0) by decide, show ¬ ((3 : Int) = 1) by decide, show ¬ ((3 : Int) = 2) by decide, if_false, if_true] at hs
    obtain ⟨r, h1, h2⟩ := told_some hs
    unfold Core.host at h1
    by_cases h0 : (s.hosts.add n sz).1 = 0
    · rw [if_neg (by simpa using h0)] at h1
      obtain ⟨t, ht, e⟩ := Option.map_eq_some_iff.1 h1
      cases e
      rcases h2 with ⟨h3, _⟩ | ⟨_, rfl⟩
      · exact absurd rfl h3
      · exact act_3o hfr st' hp' rfl h0 ht
    · rw [if_pos h0] at h1
      have e1 := Prod.mk.inj (Option.some.inj h1)
      rcases h2 with ⟨h3, rfl⟩ | ⟨h3, rfl⟩
      · rw [← e1.1]
        exact act_3e hfr st' hp' rfl h0 e1.2.symm
      · exact absurd (e1.1.trans h3) h0
  · simp only [show ¬ ((4 : Int) = 0) by decide, show ¬ ((4 : Int) = 1) by decide, show ¬ ((4 : Int) = 2) by decide, show ¬ ((4 : Int) = 3) by decide, if_false, if_true] at hs
    obtain ⟨r, h1, h2⟩ := told_some hs
    rcases h2 with ⟨h3, rfl⟩ | ⟨h3, rfl⟩
    · exact act_4e hfr st' hp' rfl h3 h1
    · exact act_4o hfr st' hp' rfl h3 h1
  · simp only [show ¬ ((5 : Int) = 0) by decide, show ¬ ((5 : Int) = 1) by decide, show ¬ ((5 : Int) = 2) by decide, show ¬ ((5 : Int) = 3) by decide, show ¬ ((5 : Int) = 4) by decide, if_false, if_true] at hs
    obtain ⟨r, h1, h2⟩ := told_some hs
    rcases h2 with ⟨h3, rfl⟩ | ⟨h3, rfl⟩
    · exact act_5e hfr st' hp' rfl h3 h1
    · exact act_5o hfr st' hp' rfl h3 h1
  · simp only [show ¬ ((6 : Int) = 0) by decide, show ¬ ((6 : Int) = 1) by decide, show ¬ ((6 : Int) = 2) by decide, show ¬ ((6 : Int) = 3) by decide, show ¬ ((6 : Int) = 4) by decide, show ¬ ((6 : Int) = 5) by decide, if_false, if_true] at hs
    exact act_6 hfr st' hp' rfl hs
  · simp only [show ¬ ((7 : Int) = 0) by decide, show ¬ ((7 : Int) = 1) by decide, show ¬ ((7 : Int) = 2) by decide, show ¬ ((7 : Int) = 3) by decide, show ¬ ((7 : Int) = 4) by decide, show ¬ ((7 : Int) = 5) by decide, show ¬ ((7 : Int) = 6) by decide, if_false, if_true] at hs
    obtain ⟨r, h1, h2⟩ := told_some hs
    rcases h2 with ⟨h3, rfl⟩ | ⟨h3, rfl⟩
    · exact act_7e hfr st' hp' rfl h3 (wn (by decide)) h1
    · exact act_7o hfr st' hp' rfl h3 (wn (by decide)) h1
  · simp only [show ¬ ((8 : Int) = 0) by decide, show ¬ ((8 : Int) = 1) by decide, show ¬ ((8 : Int) = 2) by decide, show ¬ ((8 : Int) = 3) by decide, show ¬ ((8 : Int) = 4) by decide, show ¬ ((8 : Int) = 5) by decide, show ¬ ((8 : Int) = 6) by decide, show ¬ ((8 : Int) = 7) by decide, if_false, if_true] at hs
    obtain ⟨r, h1, h2⟩ := told_some hs
    rcases h2 with ⟨h3, rfl⟩ | ⟨h3, rfl⟩
    · exact act_8e hfr st' hp' rfl h3 (wn (by decide)) h1
    · exact act_8o hfr st' hp' rfl h3 (wn (by decide)) h1
  · simp only [show ¬ ((9 : Int) = 0) by decide, show ¬ ((9 : Int) = 1) by decide, show ¬ ((9 : Int) = 2) by decide, show ¬ ((9 : Int) = 3) by decide, show ¬ ((9 : Int) = 4) by decide, show ¬ ((9 : Int) = 5) by decide, show ¬ ((9 : Int) = 6) by decide, show ¬ ((9 : Int) = 7) by decide, show ¬ ((9 : Int) = 8) by decide, if_false] at hs
    obtain ⟨r, h1, h2⟩ := told_some hs
    rcases h2 with ⟨h3, rfl⟩ | ⟨h3, rfl⟩
    · exact act_9e hfr st' hp' rfl h3 (wn (by decide)) h1
    · exact act_9o hfr st' hp' rfl h3 (wn (by decide)) h1
end Go.Proofs.YtjmdgicdpggljaaGreat.GH
