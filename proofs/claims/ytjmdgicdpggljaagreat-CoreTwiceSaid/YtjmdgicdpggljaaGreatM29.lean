/- Proved: what core's keep leaves. -/
import Derived.Test.YtjmdgicdpggljaaGreatM28
set_option linter.all false
namespace Go.Proofs.YtjmdgicdpggljaaGreat.GH
open Go.RowKit Go.Shelf Go.Proofs.YtjmdgicdpggljaaGreat.Histo Go.Proofs.YtjmdgicdpggljaaGreat.Event Go.Proofs.YtjmdgicdpggljaaGreat.Ring
set_option linter.unusedVariables false
open Go.Proofs.YtjmdgicdpggljaaGreat.Policy (Win win RetW)
open Go.Proofs.YtjmdgicdpggljaaGreat.MapI (W64)
attribute [local go_sem] Oper.semAt_some

theorem St.putObj {w : World} {g : G} {s : Core} {L : Nat} (st : St w g s) (hL : g.own L = .none) (o : Obj) : St (w.putObj L o) g s := by
  obtain ⟨ov, m⟩ := st.mem
  have s1 : Step (fun t => t = .none) w g (w.putObj L o) g := ⟨rfl, rfl, rfl, by rw [World.putObj_size]; exact Nat.le_refl _, fun _ _ => rfl, fun p hp hn => World.putObj_heap_other (fun e => hn (by rw [e]; exact hL)), fun _ _ => rfl⟩
  exact ⟨⟨ov, m.turn s1 s ov (fun _ _ => rfl)⟩, st.good⟩
theorem To.putObj {w w' : World} {g g' : G} {s s' : Core} {L : Nat} (h : To w g s w' g' s') (hL : w.heap.size ≤ L) (ho : g'.own L = .none) (o : Obj) : To w g s (w'.putObj L o) g' s' :=
  ⟨h.st.putObj ho o, ⟨h.step.os, h.step.tape, h.step.output, by rw [World.putObj_size]; exact h.step.size, h.step.own, fun p hp hn => (World.putObj_heap_other (by omega)).trans (h.step.block p hp hn), h.step.ad⟩, h.ad, h.kept⟩
theorem backnew_any (a : Option Addr) (n c : Nat) (w : World) : Calls Tryz.prog 88 #[.slice a n c] w fun e w' => e = .returned (.func (.func 121) #[] #[vptr w.heap.size]) ∧ w' = w.alloc (.cells #[.slice a n c] 68) := by
  go_enter Tryz.func88, Tryz.ntmps88
  go_wp2
  go_ret
  exact ⟨rfl, rfl⟩

/-! ### the order of unpinning -/
def rem (xs : List Int) (want k : Nat) : List Int := ((xs.drop want).reverse).drop k
theorem rem_cons {xs : List Int} {want k j : Nat} (hj : xs.length = j + k + 1) (hw : want ≤ j) : rem xs want k = xs.getD j 0 :: rem xs want (k + 1) := by
  unfold rem
  have hk : k < ((xs.drop want).reverse).length := by rw [List.length_reverse, List.length_drop]; omega
  rw [List.drop_eq_getElem_cons hk]
  congr 1
  rw [List.getElem_reverse, List.getElem_drop, List.getD_eq_getElem?_getD, List.getElem?_eq_getElem (by omega)]
  simp only [Option.getD_some, List.length_drop]
  congr 1
  omega
theorem rem_nil {xs : List Int} {want k : Nat} (h : xs.length ≤ want + k) : rem xs want k = [] := by
  unfold rem
  rw [List.drop_eq_nil_iff, List.length_reverse, List.length_drop]
  omega
theorem kill_now {s t : Core} {b : Box} (h : s.kill b = some t) : t.now = s.now := by
  unfold Core.kill at h
  cases hg : s.gone b with
  | none => rw [hg] at h; cases h
  | some u => rw [hg] at h; cases h; exact (gone_parts hg).2.2.2
theorem idle_now {s t : Core} {b : Box} {x : Int} (h : s.idle b x = some t) : t.now = s.now := by
  unfold Core.idle at h
  split at h
  · exact kill_now h
  · split at h
    · cases h
    · split at h
      · cases h; rfl
      · cases h
theorem spareOf_mem {s : Core} (gd : Good s) (hs : FM.Sorted s.boxes) {f st : Int} {b : Box} (h : s.spareOf f st = some b) : FM.get s.boxes b.id = some b := by
  unfold Core.spareOf at h
  rw [Option.map_eq_some_iff] at h
  obtain ⟨⟨id, b'⟩, h1, rfl⟩ := h
  have hg := FM.get_of_mem hs (List.mem_of_find?_eq_some h1)
  have hid := (gd.boxes _ _ hg).1
  simp only [hid]
  exact hg
theorem spare_mem {s : Core} (gd : Good s) (hs : FM.Sorted s.boxes) {f : Int} {b : Box} (h : s.spare f = some b) : FM.get s.boxes b.id = some b := by
  unfold Core.spare at h
  split at h
  · next h1 => cases h; exact spareOf_mem gd hs h1
  · split at h
    · next h1 => cases h; exact spareOf_mem gd hs h1
    · exact spareOf_mem gd hs h
/-- One round of keep's second loop, in plain words. -/
theorem pins_next {f : Int} {n : Nat} {s s' : Core} (h : Core.pins f (n + 1) s = some s') :
    (∃ b, s.spare f = some b ∧ Core.pins f n (s.pinBox b) = some s') ∨ (s.spare f = none ∧ ∃ x t r, FM.get s.fns f = some x ∧ s.room x.mem = some (t, r) ∧ ((r < 0 ∧ s' = t) ∨ (0 ≤ r ∧ ∃ u b, t.start f r = some (u, b) ∧ Core.pins f n (u.pinBox b) = some s'))) := by
  rw [Core.pins] at h
  split at h
  · next b hb => exact .inl ⟨b, hb, h⟩
  · next hb =>
    refine .inr ⟨hb, ?_⟩
    split at h
    · cases h
    · next x hx =>
      split at h
      · cases h
      · next t r hr =>
        refine ⟨x, t, r, hx, hr, ?_⟩
        split at h
        · next hlt => cases h; exact .inl ⟨hlt, rfl⟩
        · next hge =>
          split at h
          · cases h
          · next u b hst => exact .inr ⟨by omega, u, b, hst, h⟩
def Nine (p B0 B1 : Nat) (f now : Int) (W : World) : Prop := W.cell? ⟨B0, 0, none⟩ = some (vptr p) ∧ W.cell? ⟨B1, 0, none⟩ = some (.int .i64 f) ∧ W.cell? ⟨p, 0, none⟩ = some (.int .i64 now)
theorem win_field (x y z : Int) (W : World) : (Instr.field 151 (.agg #[.int .i64 x, .int .i64 y, .int .i64 z]) 2).run Tryz.prog W = .ok (.int .i64 z) W := by kernel_rfl
/-- What the loop of keep that lets sandboxes be unpinned keeps. -/
def Unp (w : World) (g : G) (s : Core) (f : Int) (L D : Nat) (xs : List Int) (want k : Nat) (t : Core) (W : World) : Prop :=
  ∃ g' s', To w g s W g' s' ∧ g'.own L = .none ∧ g'.own D = .none ∧ Core.unpin f (rem xs want k) s' = some t
/-- The functions that are known keep the memory that they want. -/
def FnMem (s t : Core) : Prop := ∀ f x, FM.get s.fns f = some x → ∃ y, FM.get t.fns f = some y ∧ y.mem = x.mem
theorem FnMem.refl (s : Core) : FnMem s s := fun _ x h => ⟨x, h, rfl⟩
theorem FnMem.trans {s t u : Core} (h : FnMem s t) (k : FnMem t u) : FnMem s u := fun f x hx => by
  obtain ⟨y, hy, e⟩ := h f x hx
  obtain ⟨z, hz, e2⟩ := k f y hy
  exact ⟨z, hz, e2.trans e⟩
theorem gone_mem {s t : Core} {b : Box} (h : s.gone b = some t) : FnMem s t := by
  unfold Core.gone at h
  simp only at h
  split at h
  · split at h
    · cases h
    · next x hx =>
      cases h
      intro f y hy
      show ∃ z, FM.get (FM.put (s.take b).fns b.fn { x with last := (s.take b).now }) f = some z ∧ z.mem = y.mem
      rw [FM.get_put]
      split
      · next e =>
        subst e
        have hx2 : FM.get s.fns b.fn = some x := hx
        rw [hx2] at hy
        cases hy
        exact ⟨_, rfl, rfl⟩
      · exact ⟨y, hy, rfl⟩
  · cases h; exact FnMem.refl s
theorem kill_mem {s t : Core} {b : Box} (h : s.kill b = some t) : FnMem s t := by
  unfold Core.kill at h
  cases hg : s.gone b with
  | none => rw [hg] at h; cases h
  | some u => rw [hg] at h; cases h; have h2 := gone_mem hg; exact h2
theorem evicts_mem : ∀ (n : Nat) {s t : Core} {h mem : Int}, Core.evicts n s h mem = some t → FnMem s t
  | 0, s, t, h, mem, e => by rw [Core.evicts] at e; cases e
  | n + 1, s, t, h, mem, e => by
    rw [Core.evicts] at e
    split at e
    · split at e
      · cases e
      · split at e
        · cases e
        · next b _ u hu => exact FnMem.trans (s := s) (kill_mem (s := s.setCache h (s.cache h).evict) hu) (evicts_mem n e)
    · cases e; exact FnMem.refl s
theorem rooms_mem : ∀ (n : Nat) {s t : Core} {mem h r : Int}, Core.rooms n s mem h = some (t, r) → FnMem s t
  | 0, s, t, mem, h, r, e => by rw [Core.rooms] at e; cases e; exact FnMem.refl s
  | n + 1, s, t, mem, h, r, e => by
    rw [Core.rooms] at e
    split at e
    · exact rooms_mem n e
    · split at e
      · cases e
      · next u hu => cases e; exact evicts_mem _ hu
theorem room_mem {s t : Core} {mem r : Int} (h : s.room mem = some (t, r)) : FnMem s t := by
  unfold Core.room at h
  split at h
  · cases h; exact FnMem.refl s
  · exact rooms_mem 32 h
theorem rooms_lt : ∀ (n : Nat) (s : Core) (mem h : Int) {t : Core} {r : Int}, h + n ≤ 32 → Core.rooms n s mem h = some (t, r) → r < 32
  | 0, s, mem, h, t, r, _, e => by rw [Core.rooms] at e; cases e; omega
  | n + 1, s, mem, h, t, r, hb, e => by
    rw [Core.rooms] at e
    split at e
    · exact rooms_lt n s mem (h + 1) (by omega) e
    · split at e
      · cases e
      · cases e; omega
theorem room_lt {s t : Core} {mem r : Int} (h : s.room mem = some (t, r)) : r < 32 := by
  unfold Core.room at h
  split at h
  · cases h; exact fit_lt _ _
  · exact rooms_lt 32 s mem 0 (by omega) h
/-- What is left to show where the body of a function that ranges over an iterator ends (its third word is read by the kit's cuts alone). -/
def leaveQ (fn : Func) (R : Ending → World → Prop) (_ : Exit → Act → World → Prop) : Exit → Act → World → Prop
  | .normal, a, w | .ret, a, w => LeavesInM Fence.wide 3 Tryz.prog fn a.tmps R a.defers .returning w
  | _, _, _ => False
theorem calls_leave {f : FuncId} {fn : Func} {c : Code} {args : Array Value} {w : World} {R : Ending → World → Prop} (hf : Tryz.prog.funcs[f]? = some fn) (hb : fn.body = some c)
    (h : c.wp Tryz.prog (leaveQ fn R (bodyPost Tryz.prog fn R)) { tmps := args ++ Array.replicate (fn.ntmps - args.size) undef, defers := [] } w) : Calls Tryz.prog f args w R :=
  callsIn_wide.1 (callsIn_of_wp_marks (n := 3) hf hb trivial ((wpIn_wide (n := 3)).2 (Code.wp_mono (fun e a w h => by cases e <;> first | exact h | exact h.elim) h)))
set_option maxRecDepth 100000 in
set_option maxHeartbeats 8000000 in
theorem keep_fresh {w : World} {g : G} {s s' : Core} {p : Nat} {f : Int} (hfr : ∀ k, w.heap.size ≤ k → g.own k = .none) (st : St w g s) (hp : g.ad .core = p) (hs : s.keep f = some s') : Calls Tryz.prog 50 #[vptr p, .int .i64 f] w (Post (.tuple #[]) w g s s') := by
  unfold Core.keep at hs
  cases hx : FM.get s.fns f with
  | none => rw [hx] at hs; cases hs
  | some x =>
    rw [hx] at hs
    simp only at hs
    cases hu : Core.unpin f ((s.pinned f).drop x.keep.toNat).reverse s with
    | none => rw [hu] at hs; cases hs
    | some t =>
      rw [hu] at hs
      simp only at hs
      have gd := st.good
      obtain ⟨f0, f1, gx⟩ := gd.fns _ _ hx
      have wf : W64 f := w64_fn ⟨f0, f1⟩
      have hfk : Kept s (.fn f) := by show (FM.get s.fns f).isSome = true; rw [hx]; rfl
      obtain ⟨fm, hfm⟩ : ∃ t, g.ad .fns = t := ⟨_, rfl⟩
      obtain ⟨fq, hfq⟩ : ∃ t, g.ad (.fn f) = t := ⟨_, rfl⟩
      obtain ⟨want, hwant⟩ : ∃ n : Nat, x.keep = n := ⟨x.keep.toNat, by have := gx.keep; omega⟩
      have hwb : want ≤ 1000 := by have := gx.keep; omega
      have htn : x.keep.toNat = want := by omega
      rw [htn] at hu hs
      have KS : Hid (∀ W, Below w.heap.size w W → Blk W w.heap.size 24 #[vptr p] → Blk W (w.heap.size + 1) 3 #[.int .i64 f] → W.cell? ⟨w.heap.size, 0, none⟩ = some (vptr p) ∧ W.cell? ⟨w.heap.size + 1, 0, none⟩ = some (.int .i64 f) ∧ W.cell? ⟨p, 4, none⟩ = some (.map (some fm)) ∧
          (Instr.lookup 48 (.map (some fm)) (.int .i64 f) false).run Tryz.prog W = .ok (vptr fq) W ∧ W.cell? ⟨fq, 3, none⟩ = some (.int .i64 (want : Int))) := Lib.hid fun W hb h0 h1 => by
        have s1 := st.below hb
        have hl := fns_look s1 wf hfm
        rw [hx] at hl
        simp only [Option.map_some, Option.getD_some, hfq] at hl
        refine ⟨h0.cell 0, h1.cell 0, s1.fns hp hfm, hl, ?_⟩
        rw [← hwant]
        exact (s1.fnBlk hx hfq).cell 3
      have HST := Lib.hid st
      have HX := Lib.hid hx
      have HU := Lib.hid hu
      have HS := Lib.hid hs
      have HM := Lib.hid (And.intro hp (And.intro hfm (And.intro hfq (And.intro wf hfk))))
      have HFR := Lib.hid hfr
      clear st gd f0 f1 gx wf hfk hfm hfq hwant htn hx hu hs hp hfr
      refine calls_leave Tryz.func50 rfl ?_
      simp only [Tryz.ntmps50, List.size_toArray, List.length_cons, List.length_nil, Nat.reduceAdd, Nat.reduceSub, Array.replicate_succ, Array.replicate_zero, List.push_toArray, List.append_toArray, List.nil_append, List.cons_append]
      go_upto_region 1 with (fail)
      have hb2 : Below w.heap.size w ((w.alloc (.cells #[vptr p] 24)).alloc (.cells #[.int .i64 f] 3)) := ((Below.refl _ _).alloc (Nat.le_refl _) _).alloc (by simp) _
      have x0 := (Blk.new w 24 #[vptr p]).alloc (.cells #[.int .i64 f] 3)
      have x1 : Blk ((w.alloc (.cells #[vptr p] 24)).alloc (.cells #[.int .i64 f] 3)) (w.heap.size + 1) 3 #[.int .i64 f] := by
        have := Blk.new (w.alloc (.cells #[vptr p] 24)) 3 #[.int .i64 f]
        simpa using this
      have hsz : ((w.alloc (.cells #[vptr p] 24)).alloc (.cells #[.int .i64 f] 3)).heap.size = w.heap.size + 2 := by simp
      generalize (w.alloc (.cells #[vptr p] 24)).alloc (.cells #[.int .i64 f] 3) = w2 at hb2 x0 x1 hsz ⊢
      obtain ⟨a0, a1, a2, a3, a4⟩ := KS.out w2 hb2 x0 x1
      have HB2 := Lib.hid hb2
      have HX0 := Lib.hid x0
      have HX1 := Lib.hid x1
      have HSZ := Lib.hid hsz
      have KS2 : Hid (∀ W, Below w2.heap.size w2 W → W.cell? ⟨w.heap.size, 0, none⟩ = some (vptr p) ∧ W.cell? ⟨w.heap.size + 1, 0, none⟩ = some (.int .i64 f) ∧ W.cell? ⟨p, 4, none⟩ = some (.map (some fm)) ∧
          (Instr.lookup 48 (.map (some fm)) (.int .i64 f) false).run Tryz.prog W = .ok (vptr fq) W ∧ W.cell? ⟨fq, 3, none⟩ = some (.int .i64 (want : Int))) := Lib.hid fun W hb => KS.out W (below_step HB2.out hb) (HX0.out.below hb HX0.out.lt) (HX1.out.below hb HX1.out.lt)
      have BR := Below.refl w2.heap.size w2
      clear hb2 x0 x1 hsz
      go_cut [4] (fun v wx => v = .pointer (some ⟨w2.heap.size, 0, none⟩) ∧ wx = (w2.alloc (.cells #[.int .i64 (want : Int)] 3)).drew)
      case first =>
        go_region_held3 (fun W => W.cell? ⟨w.heap.size, 0, none⟩ = some (vptr p) ∧ W.cell? ⟨w.heap.size + 1, 0, none⟩ = some (.int .i64 f) ∧ W.cell? ⟨p, 4, none⟩ = some (.map (some fm)) ∧
            (Instr.lookup 48 (.map (some fm)) (.int .i64 f) false).run Tryz.prog W = .ok (vptr fq) W ∧ W.cell? ⟨fq, 3, none⟩ = some (.int .i64 (want : Int)))
          (first
            | exact KS2.out _ (below_drewN BR _)
            | exact KS2.out _ BR.drew
            | exact KS2.out _ ((BR.drew).alloc (Nat.le_refl _) _)
            | exact KS2.out _ ((BR.alloc (Nat.le_refl _) _).drew)
            | exact KS2.out _ (((BR.alloc (Nat.le_refl _) _).setCell (Nat.le_refl _) _).drew)
            | exact KS2.out _ ((((BR.drew).alloc (Nat.le_refl _) _).setCell (Nat.le_refl _) _)))
          (fail)
        all_goals (go_wp2_with fail; go_meet; exact ⟨rfl, rfl⟩)
      case rest =>
        obtain ⟨rfl, rfl⟩ := hcut
        clear a0 a1 a2 a3 a4 BR
        have hb3 : Below w.heap.size w (w2.alloc (.cells #[.int .i64 (want : Int)] 3)).drew := (HB2.out.alloc HB2.out.size _).drew
        have y0 : Blk (w2.alloc (.cells #[.int .i64 (want : Int)] 3)).drew w.heap.size 24 #[vptr p] := HX0.out.alloc _
        have y1 : Blk (w2.alloc (.cells #[.int .i64 (want : Int)] 3)).drew (w.heap.size + 1) 3 #[.int .i64 f] := HX1.out.alloc _
        have y2 : Blk (w2.alloc (.cells #[.int .i64 (want : Int)] 3)).drew w2.heap.size 3 #[.int .i64 (want : Int)] := Blk.new w2 _ _
        rw [HSZ.out] at y2 ⊢
        generalize (w2.alloc (.cells #[.int .i64 (want : Int)] 3)).drew = w3 at hb3 y0 y1 y2 ⊢
        have c0 : w3.cell? ⟨w.heap.size, 0, none⟩ = some (vptr p) := y0.cell 0
        have c1 : w3.cell? ⟨w.heap.size + 1, 0, none⟩ = some (.int .i64 f) := y1.cell 0
        have hown : ∀ k, w.heap.size ≤ k → g.own k = .none := HFR.out
        have HPIN : Hid (Calls Tryz.prog 89 #[vptr p, .int .i64 f] w3 (NumsOut (s.pinned f) w3)) := Lib.hid (pinned_any (HST.out.below hb3) HM.out.1)
        have HB3 := Lib.hid hb3
        have HY0 := Lib.hid y0
        have HY1 := Lib.hid y1
        have HY2 := Lib.hid y2
        have HOWN := Lib.hid hown
        clear hb3 y0 y1 y2 hown
        go_wp2_with (first
          | (go_at_call 89; refine HPIN.out.mono ?_; rintro e w4 ⟨v, rfl, hv, hb⟩; obtain ⟨va, cap, hv2⟩ := hv.slice; subst hv2; have HV := Lib.hid hv; have HB4 := Lib.hid hb; clear hv hb)
          | (go_at_call 88; refine (backnew_any _ _ _ _).mono ?_; rintro e w5 ⟨rfl, hw5⟩; have HW5 := Lib.hid hw5; clear hw5))
        obtain ⟨n, hn⟩ : ∃ n, n = (s.pinned f).length := ⟨_, rfl⟩
        obtain ⟨xs, hxs⟩ : ∃ xs, xs = s.pinned f := ⟨_, rfl⟩
        rw [← hxs] at hn HV HU HW5
        rw [← hxs, ← hn]
        rw [← hn] at HW5 HV
        have hb5 : Below w.heap.size w w5 := below_step (below_step HB3.out HB4.out) (by rw [HW5.out]; exact (Below.refl _ _).alloc (Nat.le_refl _) _)
        have hb45 : Below w4.heap.size w4 w5 := by rw [HW5.out]; exact (Below.refl _ _).alloc (Nat.le_refl _) _
        have z0 : Blk w5 w.heap.size 24 #[vptr p] := (HY0.out.below HB4.out HY0.out.lt).below hb45 (Nat.lt_of_lt_of_le HY0.out.lt HB4.out.size)
        have z1 : Blk w5 (w.heap.size + 1) 3 #[.int .i64 f] := (HY1.out.below HB4.out HY1.out.lt).below hb45 (Nat.lt_of_lt_of_le HY1.out.lt HB4.out.size)
        have z2 : Blk w5 (w.heap.size + 2) 3 #[.int .i64 (want : Int)] := (HY2.out.below HB4.out HY2.out.lt).below hb45 (Nat.lt_of_lt_of_le HY2.out.lt HB4.out.size)
        have zs : Blk w5 w4.heap.size 68 #[.slice va n cap] := by rw [HW5.out]; exact Blk.new _ _ _
        have hsz4 : w.heap.size + 3 ≤ w4.heap.size := by have := HY2.out.lt; have := HB4.out.size; omega
        have hnl : n ≤ 4398046511104 := by
          have h1 : (s.pinned f).length ≤ s.boxes.length := by unfold Core.pinned Core.where_; rw [List.length_map]; exact List.length_filter_le _ _
          have := HST.out.good.outs; have := HST.out.good.next
          rw [hn, hxs]; omega
        have hnc : n ≤ cap := by
          rcases HV.out with ⟨h1, h2⟩ | ⟨q, cap', cs, h1, _, h3, _⟩
          · rw [hn, h2]; exact Nat.zero_le _
          · cases h1; rw [hn]; exact h3
        have hrd : ∀ W g' s', To w5 g s W g' s' → Reads W w4.heap.size va n cap xs := fun W g' s' h => by
          refine ⟨(h.blk zs (HOWN.out _ (by omega))).cell 0, fun j hj => ?_⟩
          rcases HV.out with ⟨h1, h2⟩ | ⟨q, cap', cs, h1, h0, h3, _, h4, h5⟩
          · rw [hn, h2] at hj; exact absurd hj (Nat.not_lt_zero _)
          · cases h1
            refine ⟨q, rfl, ((h.blk (h4.below hb45 h4.lt) (HOWN.out _ (Nat.le_trans HB3.out.size h0))).cell j).trans (h5 j (by rw [← hn]; exact hj))⟩
        have HZ := Lib.hid (And.intro z0 (And.intro z1 z2))
        have HRD := Lib.hid hrd
        have HB5 := Lib.hid hb5
        have HN := Lib.hid (And.intro hn (And.intro hnl hnc))
        have HXS := Lib.hid hxs
        have HS4 := Lib.hid hsz4
        clear hb5 hb45 z0 z1 z2 zs hnl hnc hrd hn hxs hsz4
        have hbelow2 : ∀ r, To w5 g s ((w5.alloc (.deferred (some []))).alloc (.loop r)) g s := fun r => To.below (HST.out.below HB5.out) ((((Below.refl _ _).alloc (Nat.le_refl _) _).alloc (by simp)) _)
        have HBL := Lib.hid hbelow2
        have hbody5 : w.heap.size ≤ w5.heap.size := HB5.out.size
        have HS5 := Lib.hid hbody5
        clear hbelow2 hbody5
        refine range_back w4.heap.size va n cap xs HN.out.2.1 HN.out.2.2 rfl rfl 0 (fun k W => Unp w5 g s f (w5.heap.size + 1) w5.heap.size xs want k t W) (fun W => ∃ g', To w5 g s W g' t ∧ g'.own (w5.heap.size + 1) = .none ∧ g'.own w5.heap.size = .none) ?_ ?_ ?_ ?_ ?_ ?_ ?_
        case refine_1 =>
          rintro k W ⟨g', s1, h1, _⟩
          exact HRD.out W g' s1 h1
        case refine_2 =>
          rintro k W o r ⟨g', s1, h1, h2, h3, h4⟩ _
          exact ⟨g', s1, h1.putObj (by omega) h2 o, h2, h3, h4⟩
        case refine_3 =>
          rintro W o r ⟨g', h1, h2, h3⟩ _
          exact ⟨g', h1.putObj (by omega) h2 o, h2, h3⟩
        case refine_4 =>
          intro r
          exact ⟨g, s, HBL.out r, HOWN.out _ (by have := HS5.out; omega), HOWN.out _ HS5.out, HU.out⟩
        case refine_5 =>
          intro k W W2 r hk hI hI2 hL hD
          obtain ⟨g1, s1, h1, hoL, hoD, hun⟩ := hI2
          obtain ⟨j, hj⟩ : ∃ j : Nat, n = j + k + 1 := ⟨n - 1 - k, by omega⟩
          have e1 : (n : Int) - 1 - k = (j : Int) := by omega
          have e2 : n - 1 - k = j := by omega
          rw [e1, e2]
          have d0 : W2.cell? ⟨w.heap.size, 0, none⟩ = some (vptr p) := (h1.blk HZ.out.1 (HOWN.out _ (Nat.le_refl _))).cell 0
          have d1 : W2.cell? ⟨w.heap.size + 1, 0, none⟩ = some (.int .i64 f) := (h1.blk HZ.out.2.1 (HOWN.out _ (by omega))).cell 0
          have d2 : W2.cell? ⟨w.heap.size + 2, 0, none⟩ = some (.int .i64 (want : Int)) := (h1.blk HZ.out.2.2 (HOWN.out _ (by omega))).cell 0
          have H1 := Lib.hid h1
          have HO := Lib.hid (And.intro hoL hoD)
          obtain ⟨id, hid⟩ : ∃ id, id = xs.getD j 0 := ⟨_, rfl⟩
          rw [← hid]
          by_cases hlt : j < want
          · have hst : s1 = t := by
              rw [rem_nil (by rw [← HN.out.1]; omega)] at hun
              unfold Core.unpin at hun
              cases hun; rfl
            subst hst
            have hz : (j : Int) < (want : Int) := by omega
            clear hI hL hD hun e1 e2 h1 hoL hoD hid
            gi_wp2
            refine ⟨trivial, ?_⟩
            gi_wp2
            have hx : ∃ g', To w5 g s W2 g' s1 ∧ g'.own (w5.heap.size + 1) = .none ∧ g'.own w5.heap.size = .none := ⟨g1, H1.out, HO.out.1, HO.out.2⟩
            first
              | exact ⟨rfl, hx, rfl, rfl⟩
              | exact ⟨trivial, hx, rfl, rfl⟩
              | exact ⟨trivial, hx, trivial, trivial⟩
              | exact ⟨trivial, hx, trivial⟩
              | (trace_state; fail)
          · have hun2 := hun
            rw [rem_cons (by rw [← HN.out.1]; exact hj) (Nat.le_of_not_lt hlt), ← hid] at hun2
            have hz : ¬ (j : Int) < (want : Int) := by omega
            rw [Core.unpin] at hun2
            cases hb : FM.get s1.boxes id with
            | none => rw [hb] at hun2; cases hun2
            | some b =>
              rw [hb] at hun2
              simp only at hun2
              have hbid := (h1.st.good.boxes _ _ hb).1
              have hkb := box_keep h1.st.good hb
              have hp1 := (h1.head (t := .core) trivial).trans HM.out.1
              obtain ⟨bm, hbm⟩ : ∃ q, g1.ad .boxes = q := ⟨_, rfl⟩
              obtain ⟨bq, hbq⟩ : ∃ q, g1.ad (.box id) = q := ⟨_, rfl⟩
              have c7 := h1.st.boxes hp1 hbm
              have hlk : (Instr.lookup 52 (.map (some bm)) (.int .i64 id) false).run Tryz.prog W2 = .ok (vptr bq) W2 := by
                obtain ⟨ov, m⟩ := h1.st.mem
                have := boxes_look m.boxes (W := W2) (w64_box h1.st.good hb).1 rfl
                rw [hb, hbm] at this
                simp only [Option.map_some, Option.getD_some, hbq] at this
                exact this
              have b6 : W2.cell? ⟨bq, 6, none⟩ = some (.bool b.pinned) := (h1.st.box hb hbq).cell 6
              have f6 : W2.frozen? ⟨bq, 6, none⟩ = false := (h1.st.box hb hbq).frozen 6
              have hset := To.boxField (q := bq) (b := b) h1.st (by rw [hbid]; exact hb) (by rw [hbid]; exact hbq) 6 (.bool false) (b' := { b with pinned := false }) rfl rfl ⟨(h1.st.good.boxes _ _ hb).2.2.2.fn, (h1.st.good.boxes _ _ hb).2.2.2.host, (h1.st.good.boxes _ _ hb).2.2.2.mem, (h1.st.good.boxes _ _ hb).2.2.2.st, (h1.st.good.boxes _ _ hb).2.2.2.since⟩
              have hb3 : FM.get (s1.setBox { b with pinned := false }).boxes id = some { b with pinned := false } := by
                show FM.get (FM.put s1.boxes b.id _) id = _
                rw [FM.get_put, if_pos hbid.symm]
              have hb3b : FM.get (s1.setBox { b with pinned := false }).boxes b.id = some { b with pinned := false } := by
                show FM.get (FM.put s1.boxes b.id _) b.id = _
                rw [FM.get_put, if_pos rfl]
              have h3 := h1.trans hset.all
              have hL3 := hset.all.block (Array.getElem?_eq_some_iff.1 hL).1 hoL
              have hD3 := hset.all.block (Array.getElem?_eq_some_iff.1 hD).1 hoD
              have HIDLE : Hid (Calls Tryz.prog 69 #[vptr bq] (W2.setCell ⟨bq, 6, none⟩ (.bool false)) (RetV (.bool b.idle) (W2.setCell ⟨bq, 6, none⟩ (.bool false)))) := Lib.hid (idle_use (b := { b with pinned := false }) h3.st hb3 hbq)
              obtain ⟨bi, hbi⟩ : ∃ bi, bi = b.idle := ⟨_, rfl⟩
              rw [← hbi] at HIDLE hun2
              cases bi
              · rw [if_neg (by simp)] at hun2
                have HI3 := Lib.hid (show Unp w5 g s f (w5.heap.size + 1) w5.heap.size xs want (k + 1) t (W2.setCell ⟨bq, 6, none⟩ (.bool false)) from ⟨g1, _, h3, hoL, hoD, hun2⟩)
                have HLD := Lib.hid (And.intro hL3 hD3)
                clear hI hun hun2 hL hD e1 e2 h1 hoL hoD hid hb hbid hkb hp1 hbm hbq hset hb3 hb3b h3 hL3 hD3 hbi
                gi_wp2
                refine ⟨trivial, ?_⟩
                gi_wp2_with (gi_at_call 69; refine (CallsIn.inRound (w5.heap.size + 1) (callsIn_wide.2 HIDLE.out)).mono ?_; rintro e w8 ⟨rfl, n8, rfl⟩)
                obtain ⟨g9, s9, k1, k2, k3, k4⟩ := HI3.out
                exact ⟨⟨g9, s9, k1.drewN n8, k2, k3, k4⟩, HLD.out.1, HLD.out.2⟩
              · rw [if_pos rfl] at hun2
                cases hwi : s1.window f with
                | none => rw [hwi] at hun2; cases hun2
                | some wi =>
                  rw [hwi] at hun2
                  simp only at hun2
                  cases hid2 : (s1.setBox { b with pinned := false }).idle { b with pinned := false } (s1.now + wi.fin) with
                  | none => rw [hid2] at hun2; cases hun2
                  | some t1 =>
                    rw [hid2] at hun2
                    simp only at hun2
                    obtain ⟨x1, hx1, hwe⟩ : ∃ x1, FM.get s1.fns f = some x1 ∧ win x1.hist x1.ring = wi := by
                      unfold Core.window at hwi
                      cases h : FM.get s1.fns f with
                      | none => rw [h] at hwi; cases hwi
                      | some x1 => rw [h] at hwi; cases hwi; exact ⟨x1, rfl, rfl⟩
                    have hwb2 := win_bd x1.hist x1.ring
                    rw [hwe] at hwb2
                    have hnw := h1.st.good.now
                    obtain ⟨fin, hfin⟩ : ∃ fin, fin = wi.fin := ⟨_, rfl⟩
                    obtain ⟨now, hnow⟩ : ∃ now, now = s1.now := ⟨_, rfl⟩
                    rw [← hfin, ← hnow] at hid2
                    rw [← hfin] at hwb2
                    rw [← hnow] at hnw
                    have hsum : IntKind.i64.wrap (now + fin) = now + fin := IntWalk.i64_in _ (by omega)
                    have hwv : wi.val = .agg #[.int .i64 wi.how, .int .i64 wi.pre, .int .i64 fin] := by rw [hfin]; rfl
                    have HWIN : Hid (∀ W, Below (W2.setCell ⟨bq, 6, none⟩ (.bool false)).heap.size (W2.setCell ⟨bq, 6, none⟩ (.bool false)) W → (W.cell? ⟨w.heap.size, 0, none⟩ = some (vptr p) ∧ W.cell? ⟨w.heap.size + 1, 0, none⟩ = some (.int .i64 f) ∧ W.cell? ⟨p, 0, none⟩ = some (.int .i64 now)) ∧
                        Calls Tryz.prog 68 #[vptr p, .int .i64 f] W (fun e W' => e = .returned (.agg #[.int .i64 wi.how, .int .i64 wi.pre, .int .i64 fin]) ∧ Below W.heap.size W W') ∧
                        Calls Tryz.prog 70 #[vptr p, vptr bq, .int .i64 (now + fin)] W (fun e W' => e = .returned (.tuple #[]) ∧ Unp w5 g s f (w5.heap.size + 1) w5.heap.size xs want (k + 1) t W' ∧ (Nine p w.heap.size (w.heap.size + 1) f now W' ∧ W'.heap[w5.heap.size + 1]? = W2.heap[w5.heap.size + 1]? ∧ W'.heap[w5.heap.size]? = W2.heap[w5.heap.size]?))) := Lib.hid fun W hb => by
                      have h4 := h3.then hb
                      have e4 := h4.st.now hp1
                      refine ⟨⟨(h4.blk HZ.out.1 (HOWN.out _ (Nat.le_refl _))).cell 0, (h4.blk HZ.out.2.1 (HOWN.out _ (by omega))).cell 0, by rw [hnow]; exact e4⟩, ?_, ?_⟩
                      · refine (window_any h4.st hp1 (show FM.get (s1.setBox { b with pinned := false }).fns f = some x1 from hx1)).mono ?_
                        rintro e W' ⟨rfl, hb'⟩
                        rw [hwe, hwv]
                        exact ⟨rfl, hb'⟩
                      · refine (idle_any' (b := { b with pinned := false }) h4.st hp1 hb3b (by show g1.ad (.box b.id) = _; rw [hbid]; exact hbq) hid2).mono ?_
                        rintro e W' ⟨rfl, g5, h5⟩
                        have hLs : w5.heap.size + 1 < W2.heap.size := (Array.getElem?_eq_some_iff.1 hL).1
                        have hs3 : W2.heap.size ≤ W.heap.size := Nat.le_trans hset.all.step.size hb.size
                        have hL5 := (h5.block (Nat.lt_of_lt_of_le hLs hs3) hoL).trans ((hb.block _ (Nat.lt_of_lt_of_le hLs hset.all.step.size)).trans hL3)
                        have hD5 := (h5.block (Nat.lt_of_lt_of_le (by omega) hs3) hoD).trans ((hb.block _ (Nat.lt_of_lt_of_le (by omega) hset.all.step.size)).trans hD3)
                        exact ⟨rfl, ⟨g5, t1, h4.trans h5, (h5.own (Nat.lt_of_lt_of_le hLs hs3)).trans hoL, (h5.own (Nat.lt_of_lt_of_le (by omega) hs3)).trans hoD, hun2⟩, ⟨((h4.trans h5).blk HZ.out.1 (HOWN.out _ (Nat.le_refl _))).cell 0, ((h4.trans h5).blk HZ.out.2.1 (HOWN.out _ (by omega))).cell 0, by have e6 := h5.st.now ((h5.head (t := .core) trivial).trans hp1); rw [idle_now hid2] at e6; rw [hnow]; exact e6⟩, hL5, hD5⟩
                    clear hI hun hun2 hL hD e1 e2 h1 hoL hoD hid hb hbid hkb hp1 hbm hbq hset hb3 hb3b h3 hL3 hD3 hbi hwi hid2 hx1 hwe hwb2 hnw hfin hnow hwv
                    have hf1 : Fence.wide.fn 68 := trivial
                    have hf2 : Fence.wide.fn 70 := trivial
                    have hfd := win_field
                    have hmix : Tryz.prog.follows .mixedOrders = true := by kernel_rfl
                    gi_wp2
                    refine ⟨trivial, ?_⟩
                    gi_upto_region 9 with (gi_at_call 69; refine (CallsIn.inRound (w5.heap.size + 1) (callsIn_wide.2 HIDLE.out)).mono ?_; rintro e w8 ⟨rfl, n8, rfl⟩)
                    have HB8 := Lib.hid (Below.drewN' (w := W2.setCell ⟨bq, 6, none⟩ (.bool false)) n8)
                    generalize (W2.setCell ⟨bq, 6, none⟩ (.bool false)).drewN n8 = W4 at HB8 ⊢
                    obtain ⟨⟨a0, a1, a2⟩, _, _⟩ := HWIN.out W4 HB8.out
                    have HW4 : Hid (∀ m, Calls Tryz.prog 68 #[vptr p, .int .i64 f] (W4.drewN m) (fun e W' => e = .returned (.agg #[.int .i64 wi.how, .int .i64 wi.pre, .int .i64 fin]) ∧ (W'.cell? ⟨w.heap.size, 0, none⟩ = some (vptr p) ∧ W'.cell? ⟨w.heap.size + 1, 0, none⟩ = some (.int .i64 f) ∧ W'.cell? ⟨p, 0, none⟩ = some (.int .i64 now)) ∧
                        Calls Tryz.prog 70 #[vptr p, vptr bq, .int .i64 (now + fin)] W' (fun e W' => e = .returned (.tuple #[]) ∧ Unp w5 g s f (w5.heap.size + 1) w5.heap.size xs want (k + 1) t W' ∧ (Nine p w.heap.size (w.heap.size + 1) f now W' ∧ W'.heap[w5.heap.size + 1]? = W2.heap[w5.heap.size + 1]? ∧ W'.heap[w5.heap.size]? = W2.heap[w5.heap.size]?)))) := Lib.hid fun m => by
                      refine (HWIN.out _ (below_drewN HB8.out m)).2.1.mono ?_
                      rintro e W' ⟨rfl, hb'⟩
                      have := HWIN.out W' (below_step (below_drewN HB8.out m) hb')
                      exact ⟨rfl, this.1, this.2.2⟩
                    clear d0 d1 d2 c7 hlk b6 f6
                    refine region_in_round (Nine p w.heap.size (w.heap.size + 1) f now) hmix (by kernel_rfl) (by rintro ⟨_, _, h⟩; exact h) ?_
                    have hHeld : Nine p w.heap.size (w.heap.size + 1) f now W4.drew := ⟨a0, a1, a2⟩
                    refine wpAnyH_take (i := 0) (oi := _) (v := _) rfl (by kernel_rfl) (by kernel_rfl) (by kernel_rfl) (fun _ _ _ h => h) (Or.inl ⟨by rfl, (by rintro W ⟨q0, q1, q2⟩; go_simp; first | done | with_reducible rfl)⟩) (by assumption) ?_
                    simp only [Act.put, List.setIfInBounds_toArray, List.set_cons_zero, List.set_cons_succ]
                    refine wpAnyH_take (i := 1) (oi := _) (v := _) rfl (by kernel_rfl) (by kernel_rfl) (by kernel_rfl) (fun _ _ _ h => h) (Or.inl ⟨by rfl, (by rintro W ⟨q0, q1, q2⟩; go_simp; first | done | with_reducible rfl)⟩) (by assumption) ?_
                    simp only [Act.put, List.setIfInBounds_toArray, List.set_cons_zero, List.set_cons_succ]
                    refine wpAnyH_take (i := 2) (oi := _) (v := _) rfl (by kernel_rfl) (by kernel_rfl) (by kernel_rfl) (fun _ _ _ h => h) (Or.inl ⟨by rfl, (by rintro W ⟨q0, q1, q2⟩; go_simp; first | done | with_reducible rfl)⟩) (by assumption) ?_
                    simp only [Act.put, List.setIfInBounds_toArray, List.set_cons_zero, List.set_cons_succ]
                    refine wpAnyH_take (i := 3) (oi := _) (v := _) rfl (by kernel_rfl) (by kernel_rfl) (by kernel_rfl) (fun _ _ _ h => h) (Or.inl ⟨by rfl, (by rintro W ⟨q0, q1, q2⟩; go_simp; first | done | with_reducible rfl)⟩) (by assumption) ?_
                    simp only [Act.put, List.setIfInBounds_toArray, List.set_cons_zero, List.set_cons_succ]
                    refine wpAnyH_take (i := 4) (oi := _) (v := _) rfl (by kernel_rfl) (by kernel_rfl) (by kernel_rfl) (fun _ _ _ h => h) (Or.inl ⟨by rfl, (by rintro W ⟨q0, q1, q2⟩; go_simp; first | done | with_reducible rfl)⟩) (by assumption) ?_
                    simp only [Act.put, List.setIfInBounds_toArray, List.set_cons_zero, List.set_cons_succ]
                    refine wpAnyH_take (i := 5) (oi := _) (v := _) rfl (by kernel_rfl) (by kernel_rfl) (by kernel_rfl) (fun _ _ _ h => h) (Or.inl ⟨by rfl, (by rintro W ⟨q0, q1, q2⟩; go_simp; first | done | with_reducible rfl)⟩) (by assumption) ?_
                    simp only [Act.put, List.setIfInBounds_toArray, List.set_cons_zero, List.set_cons_succ]
                    refine wpAnyH_take (i := 6) (oi := _) (v := _) rfl (by kernel_rfl) (by kernel_rfl) (by kernel_rfl) (fun _ _ _ h => h) (Or.inl ⟨by rfl, (by rintro W ⟨q0, q1, q2⟩; go_simp; first | done | with_reducible rfl)⟩) (by assumption) ?_
                    simp only [Act.put, List.setIfInBounds_toArray, List.set_cons_zero, List.set_cons_succ]
                    refine wpAnyH_take (i := 7) (oi := _) (v := _) rfl (by kernel_rfl) (by kernel_rfl) (by kernel_rfl) (fun _ _ _ h => h) (Or.inl ⟨by rfl, (by rintro W ⟨q0, q1, q2⟩; go_simp; first | done | with_reducible rfl)⟩) (by assumption) ?_
                    simp only [Act.put, List.setIfInBounds_toArray, List.set_cons_zero, List.set_cons_succ]
                    refine wpAnyH_ready (rs := [8]) (by kernel_rfl) (by simp) ?_
                    refine AllReadyH.cons rfl (fun K hK => ?_) AllReadyH.nil
                    go_simp
                    go_wp2_with (go_at_call 68; refine (HW4.out _).mono ?_; rintro e W5 ⟨rfl, hs5, hc5⟩; have HS5 := Lib.hid hs5; have HC5 := Lib.hid hc5; clear hs5 hc5)
                    refine hK.out _ _ HS5.out (fun hHeld => ?_)
                    clear hK K
                    refine wpAnyH_take (i := 9) (oi := _) (v := _) rfl (by kernel_rfl) (by kernel_rfl) (by kernel_rfl) (fun _ _ _ h => h) (Or.inl ⟨by rfl, (by rintro W ⟨q0, q1, q2⟩; go_simp; first | done | with_reducible rfl)⟩) (by assumption) ?_
                    simp only [Act.put, List.setIfInBounds_toArray, List.set_cons_zero, List.set_cons_succ]
                    refine wpAnyH_take (i := 10) (oi := _) (v := _) rfl (by kernel_rfl) (by kernel_rfl) (by kernel_rfl) (fun _ _ _ h => h) (Or.inl ⟨by rfl, (by rintro W ⟨q0, q1, q2⟩; go_simp; first | done | with_reducible rfl)⟩) (by assumption) ?_
                    simp only [Act.put, List.setIfInBounds_toArray, List.set_cons_zero, List.set_cons_succ]
                    refine wpAnyH_ready (rs := [11]) (by kernel_rfl) (by simp) ?_
                    refine AllReadyH.cons rfl (fun K hK => ?_) AllReadyH.nil
                    go_simp
                    go_wp2_with (go_at_call 70; refine HC5.out.mono ?_; rintro e W6 ⟨rfl, h6⟩; have H6 := Lib.hid h6; clear h6)
                    refine hK.out _ _ H6.out.2.1 (fun hHeld => ?_)
                    clear hK K
                    refine wpAnyH_done (by kernel_rfl) ?_ _
                    exact ⟨H6.out.1, H6.out.2.2.1, H6.out.2.2.2⟩
        case refine_6 => exact fun _ _ h => h
        case refine_7 =>
          intro W hW hD
          have hW2 : ∃ g', To w5 g s W g' t ∧ g'.own w5.heap.size = .none := by
            rcases hW with ⟨g1, s1, h1, _, h3, h4⟩ | ⟨g1, h1, _, h3⟩
            · rw [rem_nil (by rw [← HN.out.1]; omega)] at h4
              unfold Core.unpin at h4
              cases h4
              exact ⟨g1, h1, h3⟩
            · exact ⟨g1, h1, h3⟩
          obtain ⟨g1, h1, hoD⟩ := hW2
          clear hW
          have CE : Hid (∀ W' g' s', To w5 g s W' g' s' → W'.cell? ⟨w.heap.size, 0, none⟩ = some (vptr p) ∧ W'.cell? ⟨w.heap.size + 1, 0, none⟩ = some (.int .i64 f) ∧ W'.cell? ⟨w.heap.size + 2, 0, none⟩ = some (.int .i64 (want : Int)) ∧ g'.ad .core = p) := Lib.hid fun W' g' s' h => ⟨(h.blk HZ.out.1 (HOWN.out _ (Nat.le_refl _))).cell 0, (h.blk HZ.out.2.1 (HOWN.out _ (by omega))).cell 0, (h.blk HZ.out.2.2 (HOWN.out _ (by omega))).cell 0, (h.head (t := .core) trivial).trans HM.out.1⟩
          have H1 := Lib.hid h1
          have HOD := Lib.hid hoD
          have HD := Lib.hid hD
          obtain ⟨c0, c1, c2, hp1⟩ := CE.out W g1 t h1
          have HPIN2 := Lib.hid (pinned_any (f := f) h1.st hp1)
          obtain ⟨m0, hm0⟩ : ∃ m, m = (t.pinned f).length := ⟨_, rfl⟩
          have HM0 := Lib.hid hm0
          have hm0b : m0 ≤ 4398046511104 := by
            have h2 : (t.pinned f).length ≤ t.boxes.length := by unfold Core.pinned Core.where_; rw [List.length_map]; exact List.length_filter_le _ _
            have := h1.st.good.outs; have := h1.st.good.next
            rw [hm0]; omega
          clear h1 hoD hD hp1 hm0
          go_wp2_with (go_at_call 89; refine HPIN2.out.mono ?_; rintro e w6 ⟨v, rfl, hv, hb6⟩; obtain ⟨va2, cap2, hv2⟩ := hv.slice; subst hv2; rw [← HM0.out]; have HB6 := Lib.hid hb6; clear hb6 hv)
          have h6 := H1.out.then HB6.out
          have hpi : Core.pins f (want - m0) t = some s' := by have := HS.out; rw [← HM0.out] at this; exact this
          have hD6 : w6.heap[w5.heap.size]? = some (.deferred (some [])) := (HB6.out.block _ (Array.getElem?_eq_some_iff.1 HD.out).1).trans HD.out
          have HR0 : Hid (∃ g2 s2, To w5 g s w6 g2 s2 ∧ g2.own w5.heap.size = .none ∧ w6.heap[w5.heap.size]? = some (.deferred (some [])) ∧ Core.pins f (want - m0) s2 = some s') := Lib.hid ⟨g1, t, h6, HOD.out, hD6, hpi⟩
          have PT : Hid (∀ c w7 g3 s3 b bq, To w5 g s w7 g3 s3 → g3.own w5.heap.size = .none → w7.heap[w5.heap.size]? = some (.deferred (some [])) → FM.get s3.boxes b.id = some b → g3.ad (.box b.id) = bq → Core.pins f (want - (c + 1)) (s3.pinBox b) = some s' →
              w7.cell? ⟨w.heap.size, 0, none⟩ = some (vptr p) ∧ Calls Tryz.prog 91 #[vptr p, vptr bq] w7 fun e w8 => e = .returned (.tuple #[]) ∧ (w8.cell? ⟨bq, 6, none⟩).isSome = true ∧ w8.frozen? ⟨bq, 6, none⟩ = false ∧
                ∃ g2 s2, To w5 g s (w8.setCell ⟨bq, 6, none⟩ (.bool true)) g2 s2 ∧ g2.own w5.heap.size = .none ∧ (w8.setCell ⟨bq, 6, none⟩ (.bool true)).heap[w5.heap.size]? = some (.deferred (some [])) ∧ Core.pins f (want - (c + 1)) s2 = some s') := Lib.hid fun c w7 g3 s3 b bq h7 ho hd hb hq hpn => by
            refine ⟨(CE.out w7 g3 s3 h7).1, ?_⟩
            refine (take_any h7.st (CE.out w7 g3 s3 h7).2.2.2 hb hq).mono ?_
            rintro e w8 ⟨rfl, g4, h8⟩
            have hkb := box_keep h7.st.good hb
            have hq4 := (h8.ad _ hkb).trans hq
            have hb4 : FM.get (s3.take b).boxes b.id = some b := hb
            have hbk := h8.st.box hb4 hq4
            have hgb := (h7.st.good.boxes _ _ hb).2.2.2
            have hset := To.boxField (q := bq) (b := b) h8.st hb4 hq4 6 (.bool true) (b' := { b with pinned := true }) rfl rfl ⟨hgb.fn, hgb.host, hgb.mem, hgb.st, hgb.since⟩
            have hDs : w5.heap.size < w7.heap.size := (Array.getElem?_eq_some_iff.1 hd).1
            have ho8 : g4.own w5.heap.size = .none := (h8.own hDs).trans ho
            have hd8 : w8.heap[w5.heap.size]? = some (.deferred (some [])) := (h8.block hDs ho).trans hd
            refine ⟨rfl, by rw [hbk.cell 6]; rfl, hbk.frozen 6, g4, _, (h7.trans h8).trans hset.all, ho8, ?_, hpn⟩
            exact (hset.all.block (Nat.lt_of_lt_of_le hDs h8.step.size) ho8).trans hd8
          clear h6 hpi hD6 c0 c1 c2
          go_loopw [8] (fun i wr => ∃ c : Nat, i = .int .i64 c ∧ c ≤ 4398046512104 ∧ ∃ g2 s2, To w5 g s wr g2 s2 ∧ g2.own w5.heap.size = .none ∧ wr.heap[w5.heap.size]? = some (.deferred (some [])) ∧ Core.pins f (want - c) s2 = some s') (fun i _ => want - (intOf i).toNat)
          case atStart => exact ⟨m0, rfl, by omega, HR0.out⟩
          case round =>
            obtain ⟨c, rfl, hcb, g2, s2, h2, ho2, hd2, hpn⟩ := hrel
            obtain ⟨c0, c1, c2, hp2⟩ := CE.out wr g2 s2 h2
            have H2 := Lib.hid h2
            have HO2 := Lib.hid ho2
            have HD2 := Lib.hid hd2
            by_cases hlt : c < want
            · obtain ⟨m, hm⟩ : ∃ m, want - c = m + 1 := ⟨want - c - 1, by omega⟩
              have hm2 : m = want - (c + 1) := by omega
              rw [hm] at hpn
              have HSP := Lib.hid (spare_any (f := f) h2.st hp2)
              have hz : (c : Int) < (want : Int) := by omega
              rcases pins_next hpn with ⟨b, hb, hpb⟩ | ⟨hno, x2, t2, r2, hx2, hr2, hcase⟩
              · have hbm := spare_mem h2.st.good h2.st.sorted.2.2.2.1 hb
                obtain ⟨bq, hbq⟩ : ∃ bq, g2.ad (.box b.id) = bq := ⟨_, rfl⟩
                have hv : bptr g2 (s2.spare f) = vptr bq := by rw [hb]; show vptr (g2.ad (.box b.id)) = _; rw [hbq]
                rw [hv] at HSP
                have HPT : Hid (∀ w7, Below wr.heap.size wr w7 → _) := Lib.hid fun w7 hb7 => PT.out c w7 g2 s2 b bq (h2.then hb7) ho2 ((hb7.block _ (Array.getElem?_eq_some_iff.1 hd2).1).trans hd2) hbm hbq (by rw [← hm2]; exact hpb)
                clear h2 ho2 hd2 hp2 hpn hm hm2 hb hpb hbm hbq hv
                go_wp2_with (first
                  | (go_at_call 90; refine HSP.out.mono ?_; rintro e w7 ⟨rfl, hb7⟩; obtain ⟨d0, hk⟩ := HPT.out w7 hb7; have HK := Lib.hid hk; clear hk hb7)
                  | (go_at_call 91; refine HK.out.mono ?_; rintro e w8 ⟨rfl, hsm, hfz, hrel8⟩; obtain ⟨old, hold⟩ := Option.isSome_iff_exists.1 hsm; have HR8 := Lib.hid hrel8; clear hsm hrel8))
                go_roundw
                case rel => exact ⟨c + 1, by go_num, by omega, HR8.out⟩
                case measure => simp [intOf]; omega
              · have hv : bptr g2 (s2.spare f) = .pointer none := by rw [hno]; rfl
                rw [hv] at HSP
                obtain ⟨f0, f1, gx2⟩ := h2.st.good.fns _ _ hx2
                have hmb : 0 ≤ x2.mem ∧ x2.mem ≤ 4096 := ⟨by have := gx2.mem.1; omega, gx2.mem.2⟩
                have hr32 : r2 < 32 := room_lt hr2
                have hfm2 : g2.ad .fns = fm := (h2.head (t := .fns) trivial).trans HM.out.2.1
                have hfq2 : g2.ad (.fn f) = fq := (h2.ad _ HM.out.2.2.2.2).trans HM.out.2.2.1
                have HFX : Hid (∀ W, Below wr.heap.size wr W → W.cell? ⟨w.heap.size, 0, none⟩ = some (vptr p) ∧ W.cell? ⟨w.heap.size + 1, 0, none⟩ = some (.int .i64 f) ∧ W.cell? ⟨p, 4, none⟩ = some (.map (some fm)) ∧ (Instr.lookup 48 (.map (some fm)) (.int .i64 f) false).run Tryz.prog W = .ok (vptr fq) W ∧ W.cell? ⟨fq, 1, none⟩ = some (.int .i64 x2.mem)) := Lib.hid fun W hb => by
                  have h := h2.then hb
                  have hl := fns_look h.st HM.out.2.2.2.1 hfm2
                  rw [hx2] at hl
                  simp only [Option.map_some, Option.getD_some, hfq2] at hl
                  exact ⟨(CE.out W g2 s2 h).1, (CE.out W g2 s2 h).2.1, h.st.fns hp2 hfm2, hl, (h.st.fnBlk hx2 hfq2).cell 1⟩
                have HFX2 : Hid (∀ W g3, To w5 g s W g3 t2 → W.cell? ⟨w.heap.size, 0, none⟩ = some (vptr p) ∧ W.cell? ⟨w.heap.size + 1, 0, none⟩ = some (.int .i64 f) ∧ W.cell? ⟨p, 4, none⟩ = some (.map (some fm)) ∧ (Instr.lookup 48 (.map (some fm)) (.int .i64 f) false).run Tryz.prog W = .ok (vptr fq) W ∧ W.cell? ⟨fq, 1, none⟩ = some (.int .i64 x2.mem)) := Lib.hid fun W g3 h => by
                  obtain ⟨y, hy, hym⟩ := room_mem hr2 f x2 hx2
                  have e1 : g3.ad .core = p := (CE.out W g3 t2 h).2.2.2
                  have e2 : g3.ad .fns = fm := (h.head (t := .fns) trivial).trans HM.out.2.1
                  have e3 : g3.ad (.fn f) = fq := (h.ad _ HM.out.2.2.2.2).trans HM.out.2.2.1
                  have hl := fns_look h.st HM.out.2.2.2.1 e2
                  rw [hy] at hl
                  simp only [Option.map_some, Option.getD_some, e3] at hl
                  refine ⟨(CE.out W g3 t2 h).1, (CE.out W g3 t2 h).2.1, h.st.fns e1 e2, hl, ?_⟩
                  rw [← hym]
                  exact (h.st.fnBlk hy e3).cell 1
                have HRM : Hid (∀ W, Below wr.heap.size wr W → Calls Tryz.prog 64 #[vptr p, .int .i64 x2.mem] W (fun e w7 => e = .returned (roomVal r2) ∧ (w7.cell? ⟨w.heap.size, 0, none⟩ = some (vptr p) ∧ w7.cell? ⟨w.heap.size + 1, 0, none⟩ = some (.int .i64 f) ∧ w7.cell? ⟨p, 4, none⟩ = some (.map (some fm)) ∧ (Instr.lookup 48 (.map (some fm)) (.int .i64 f) false).run Tryz.prog w7 = .ok (vptr fq) w7 ∧ w7.cell? ⟨fq, 1, none⟩ = some (.int .i64 x2.mem)) ∧ ∃ g3, To w5 g s w7 g3 t2 ∧ g3.own w5.heap.size = .none ∧ w7.heap[w5.heap.size]? = some (.deferred (some [])))) := Lib.hid fun W hb => by
                  have h := h2.then hb
                  refine (room_any h.st hp2 hmb hr2).mono ?_
                  rintro e w7 ⟨rfl, g3, h7⟩
                  have hDs : w5.heap.size < wr.heap.size := (Array.getElem?_eq_some_iff.1 hd2).1
                  have hDs2 : w5.heap.size < W.heap.size := Nat.lt_of_lt_of_le hDs hb.size
                  exact ⟨rfl, HFX2.out _ _ (h.trans h7), g3, h.trans h7, (h7.own hDs2).trans ho2, (h7.block hDs2 ho2).trans ((hb.block _ hDs).trans hd2)⟩
                have HCASE := Lib.hid hcase
                have HR := Lib.hid (And.intro hr32 (And.intro hm2 hfq2))
                clear h2 ho2 hd2 hp2 hpn hm hm2 hno hx2 hr2 hcase hv f0 f1 gx2 hmb hr32 hfm2 hfq2 HFX2
                go_wp2_with (go_at_call 90; refine HSP.out.mono ?_; rintro e w7 ⟨rfl, hb7⟩; obtain ⟨a0, a1, a2, a3, a4⟩ := HFX.out w7 hb7; have HB7 := Lib.hid hb7; clear hb7)
                have a3n : ∀ n, (Instr.lookup 48 (.map (some fm)) (.int .i64 f) false).run Tryz.prog (w7.drewN n) = .ok (vptr fq) (w7.drewN n) := fun n => (HFX.out _ (below_drewN HB7.out n)).2.2.2.1
                have HRM7 : Hid (∀ n, Calls Tryz.prog 64 #[vptr p, .int .i64 x2.mem] (w7.drewN n) _) := Lib.hid fun n => HRM.out _ (below_drewN HB7.out n)
                clear HFX HRM
                unfold roomVal at HRM7
                go_cut [10, 11] (fun v1 v2 wx => v1 = .int .i64 (max r2 0) ∧ v2 = .bool (decide (0 ≤ r2)) ∧ wx.cell? ⟨w.heap.size, 0, none⟩ = some (vptr p) ∧ wx.cell? ⟨w.heap.size + 1, 0, none⟩ = some (.int .i64 f) ∧ ∃ g3, To w5 g s wx g3 t2 ∧ g3.own w5.heap.size = .none ∧ wx.heap[w5.heap.size]? = some (.deferred (some [])))
                case first =>
                  go_region_held3 (fun w' => w'.cell? ⟨w.heap.size, 0, none⟩ = some (vptr p) ∧ w'.cell? ⟨w.heap.size + 1, 0, none⟩ = some (.int .i64 f) ∧ w'.cell? ⟨p, 4, none⟩ = some (.map (some fm)) ∧ (Instr.lookup 48 (.map (some fm)) (.int .i64 f) false).run Tryz.prog w' = .ok (vptr fq) w' ∧ w'.cell? ⟨fq, 1, none⟩ = some (.int .i64 x2.mem))
                    (first | assumption | (refine ⟨?_, ?_, ?_, ?_, ?_⟩ <;> first | assumption | exact a3n _ | go_keep))
                    (first
                      | (go_at_call 64; refine (HRM7.out _).mono ?_; rintro e w9 ⟨rfl, hs9, hr9⟩; have HR9 := Lib.hid (And.intro hs9.1 (And.intro hs9.2.1 hr9)); clear hr9))
                  all_goals (go_wp2_with fail; go_meet; exact ⟨rfl, rfl, HR9.out⟩)
                case rest =>
                  obtain ⟨rfl, rfl, b0, b1, hr9⟩ := hcut
                  clear a0 a1 a2 a3 a4 a3n
                  have HR9 := Lib.hid hr9
                  clear hr9
                  by_cases hlt0 : r2 < 0
                  · have d1 : decide (0 ≤ r2) = false := by simpa using hlt0
                    rw [d1]
                    have he : t2 = s' := by
                      rcases HCASE.out with ⟨_, h⟩ | ⟨h, _⟩
                      · exact h.symm
                      · exact absurd h (by omega)
                    subst he
                    obtain ⟨g3, h3, ho3, hd3⟩ := HR9.out
                    have H3 := Lib.hid h3
                    have HO3 := Lib.hid ho3
                    have HD3 := Lib.hid hd3
                    clear h3 ho3 hd3 hlt0
                    go_wp2
                    refine ⟨by simp, .inl ⟨_, _, rfl, run_takeDeferred HD3.out, ?_⟩⟩
                    exact ⟨.tuple #[], by kernel_rfl, rfl, g3, ((To.below HST.out HB5.out).trans H3.out).putObj HS5.out HO3.out _⟩
                  · have d1 : decide (0 ≤ r2) = true := by simpa using hlt0
                    have e1 : max r2 0 = r2 := by omega
                    rw [d1, e1]
                    obtain ⟨u, b, hst, hpb⟩ : ∃ u b, t2.start f r2 = some (u, b) ∧ Core.pins f m (u.pinBox b) = some s' := by
                      rcases HCASE.out with ⟨h, _⟩ | ⟨_, h⟩
                      · exact absurd h hlt0
                      · exact h
                    have HSTART : Hid (∀ n, Calls Tryz.prog 66 #[vptr p, .int .i64 f, .int .i64 r2] (wc.drewN n) fun e w10 => ∃ bq, e = .returned (vptr bq) ∧ w10.cell? ⟨w.heap.size, 0, none⟩ = some (vptr p) ∧ Calls Tryz.prog 91 #[vptr p, vptr bq] w10 fun e w8 => e = .returned (.tuple #[]) ∧ (w8.cell? ⟨bq, 6, none⟩).isSome = true ∧ w8.frozen? ⟨bq, 6, none⟩ = false ∧
                        ∃ g2 s2, To w5 g s (w8.setCell ⟨bq, 6, none⟩ (.bool true)) g2 s2 ∧ g2.own w5.heap.size = .none ∧ (w8.setCell ⟨bq, 6, none⟩ (.bool true)).heap[w5.heap.size]? = some (.deferred (some [])) ∧ Core.pins f (want - (c + 1)) s2 = some s') := Lib.hid fun n => by
                      obtain ⟨g3, h3, ho3, hd3⟩ := HR9.out
                      have h4 := h3.drewN n
                      refine (start_any h4.st (CE.out _ _ _ h4).2.2.2 ⟨by omega, HR.out.1⟩ hst).mono ?_
                      rintro e w10 ⟨g5, rfl, h5⟩
                      obtain ⟨_, _, _, _, p5, _⟩ := start_parts hst
                      have hDs : w5.heap.size < (wc.drewN n).heap.size := (Array.getElem?_eq_some_iff.1 hd3).1
                      have hq := PT.out c w10 g5 u b _ (h4.trans h5) ((h5.own hDs).trans ho3) ((h5.block hDs ho3).trans hd3) p5 rfl (by rw [← HR.out.2.1]; exact hpb)
                      exact ⟨_, rfl, hq⟩
                    clear hst hpb hlt0
                    go_wp2_with (first
                      | (go_at_call 66; refine (HSTART.out _).mono ?_; rintro e w10 ⟨bq, rfl, d0, hk⟩; have HK := Lib.hid hk; clear hk)
                      | (go_at_call 66; refine (HSTART.out 0).mono ?_; rintro e w10 ⟨bq, rfl, d0, hk⟩; have HK := Lib.hid hk; clear hk)
                      | (go_at_call 91; refine HK.out.mono ?_; rintro e w8 ⟨rfl, hsm, hfz, hrel8⟩; obtain ⟨old, hold⟩ := Option.isSome_iff_exists.1 hsm; have HR8 := Lib.hid hrel8; clear hsm hrel8))
                    go_roundw
                    case rel => exact ⟨c + 1, by go_num, by omega, HR8.out⟩
                    case measure => simp [intOf]; omega
            · have hz : ¬ ((c : Int) < (want : Int)) := by omega
              have h0 : want - c = 0 := by omega
              rw [h0, Core.pins] at hpn
              cases hpn
              clear h2 ho2 hd2 hp2 h0 hlt
              go_wp2
              refine ⟨by simp, .inl ⟨_, _, rfl, run_takeDeferred HD2.out, ?_⟩⟩
              exact ⟨.tuple #[], by kernel_rfl, rfl, g2, ((To.below HST.out HB5.out).trans H2.out).putObj HS5.out HO2.out _⟩
theorem keep_any {w : World} {g : G} {s s' : Core} {p : Nat} {f : Int} (st : St w g s) (hp : g.ad .core = p) (hs : s.keep f = some s') : Calls Tryz.prog 50 #[vptr p, .int .i64 f] w (Post (.tuple #[]) w g s s') :=
  (keep_fresh (fun _ hk => fresh_own hk) (To.fresh st).st hp hs).mono fun _ _ h => h.fresh st
end Go.Proofs.YtjmdgicdpggljaaGreat.GH
