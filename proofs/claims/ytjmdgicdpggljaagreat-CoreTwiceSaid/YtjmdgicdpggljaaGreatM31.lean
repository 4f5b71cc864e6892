/- Proved: what core's booted leaves, where the sandbox isn't there, where it has booted before, and where its time was laid down. -/
import Derived.Test.YtjmdgicdpggljaaGreatM30
set_option linter.all false
namespace Go.Proofs.YtjmdgicdpggljaaGreat.GH
open Go.RowKit Go.Maps Go.Sort Go.Shelf Go.Proofs.YtjmdgicdpggljaaGreat.Histo Go.Proofs.YtjmdgicdpggljaaGreat.Event Go.Proofs.YtjmdgicdpggljaaGreat.Ring
set_option linter.unusedVariables false
open Go.Proofs.YtjmdgicdpggljaaGreat.MapI (W64)
open Go.Proofs.YtjmdgicdpggljaaGreat.Policy (Win win RetW)
attribute [local go_sem] Oper.semAt_some

theorem zero_int (w : World) : (zeroValue 2).run Tryz.prog w = .ok (.int .i64 0) w := by kernel_rfl
theorem St.tilLook {w : World} {g : G} {s : Core} {id : Int} (st : St w g s) (hi : W64 id) {tm : Nat} (htm : g.ad .til = tm) :
    (Instr.lookup 53 (.map (some tm)) (.int .i64 id) true).run Tryz.prog w = .ok (.tuple #[.int .i64 ((FM.get s.til id).getD 0), .bool (FM.get s.til id).isSome]) w := by
  obtain ⟨ov, m⟩ := st.mem
  have := MapI.At.look_ok (t := 53) m.til.map (by kernel_rfl) Tryz.underlying53 (zero_int w) hi
  rw [htm, FM.get_vals] at this
  rw [this]
  cases FM.get s.til id <;> rfl
set_option maxRecDepth 100000 in
set_option maxHeartbeats 4000000 in
theorem booted_none {w : World} {g : G} {s : Core} {p : Nat} {id : Int} (st : St w g s) (hp : g.ad .core = p) (hi : W64 id) (hb : FM.get s.boxes id = none) : Calls Tryz.prog 29 #[vptr p, .int .i64 id] w (Post (.int .i64 2) w g s s) := by
  obtain ⟨bm, hbm⟩ : ∃ t, g.ad .boxes = t := ⟨_, rfl⟩
  have c7 := st.boxes hp hbm
  have hl := st.look hi hbm
  rw [hb] at hl
  simp only [Option.map_none, Option.getD_none] at hl
  have HST := Lib.hid st
  clear st hb hp hbm hi
  go_enter Tryz.func29, Tryz.ntmps29
  go_wp2
  go_ret
  exact ⟨rfl, g, To.refl HST.out⟩
set_option maxRecDepth 100000 in
set_option maxHeartbeats 4000000 in
theorem booted_late {w : World} {g : G} {s : Core} {p : Nat} {id : Int} {b : Box} (st : St w g s) (hp : g.ad .core = p) (hi : W64 id) (hb : FM.get s.boxes id = some b) (h0 : b.st ≠ 0) : Calls Tryz.prog 29 #[vptr p, .int .i64 id] w (Post (.int .i64 3) w g s s) := by
  obtain ⟨bm, hbm⟩ : ∃ t, g.ad .boxes = t := ⟨_, rfl⟩
  have c7 := st.boxes hp hbm
  have c0 := st.now hp
  have hl := st.look hi hbm
  rw [hb] at hl
  obtain ⟨bq, hbq⟩ : ∃ t, g.ad (.box id) = t := ⟨_, rfl⟩
  simp only [Option.map_some, Option.getD_some, hbq] at hl
  have hid := (st.good.boxes _ _ hb).1
  have hb' : FM.get s.boxes b.id = some b := by rw [hid]; exact hb
  have hbt := bbooted_use (q := bq) st hb' (by rw [hid]; exact hbq)
  rw [if_neg h0, setBox_same st hb', show (b.st == 0) = false from by simpa using h0] at hbt
  have HBT := Lib.hid hbt
  obtain ⟨now, hnow⟩ : ∃ n, n = s.now := ⟨_, rfl⟩
  rw [← hnow] at c0 HBT
  clear st hb hp hbm hi hid hb' hbt h0 hnow hbq
  go_enter Tryz.func29, Tryz.ntmps29
  go_wp2_with (go_at_call 67; refine HBT.out.mono ?_; rintro e w2 ⟨rfl, ht⟩; have HT := Lib.hid ht; clear ht)
  go_ret
  exact ⟨rfl, g, HT.out.all⟩
theorem booted_pinned (b : Box) (now : Int) : (b.booted now).pinned = b.pinned := by unfold Box.booted; split <;> rfl
set_option maxRecDepth 100000 in
set_option maxHeartbeats 4000000 in
theorem booted_til {w : World} {g : G} {s s' : Core} {p : Nat} {id t r : Int} {b : Box} (st : St w g s) (hp : g.ad .core = p) (hi : W64 id) (hb : FM.get s.boxes id = some b) (h0 : b.st = 0) (ht : FM.get s.til id = some t) (hs : s.booted id = some (r, s')) : Calls Tryz.prog 29 #[vptr p, .int .i64 id] w (Post (.int .i64 r) w g s s') := by
  obtain ⟨bm, hbm⟩ : ∃ t, g.ad .boxes = t := ⟨_, rfl⟩
  obtain ⟨tm, htm⟩ : ∃ t, g.ad .til = t := ⟨_, rfl⟩
  have c7 := st.boxes hp hbm
  have c0 := st.now hp
  have hl := st.look hi hbm
  rw [hb] at hl
  obtain ⟨bq, hbq⟩ : ∃ t, g.ad (.box id) = t := ⟨_, rfl⟩
  simp only [Option.map_some, Option.getD_some, hbq] at hl
  have hid := (st.good.boxes _ _ hb).1
  have hb' : FM.get s.boxes b.id = some b := by rw [hid]; exact hb
  have hbt := bbooted_use (q := bq) st hb' (by rw [hid]; exact hbq)
  rw [if_pos h0, show (b.st == 0) = true from by simpa using h0] at hbt
  unfold Core.booted at hs
  rw [hb, ht] at hs
  simp only [h0, ne_eq, not_true_eq_false, if_false] at hs
  obtain ⟨b1, hb1⟩ : ∃ x, x = b.booted s.now := ⟨_, rfl⟩
  rw [← hb1] at hs hbt
  have hid1 : b1.id = id := by rw [hb1, booted_id, hid]
  have hpin : b1.pinned = b.pinned := by rw [hb1, booted_pinned]
  rw [← hpin] at hs
  have HCH : Hid (Calls Tryz.prog 67 #[vptr bq, .int .i64 s.now] w fun e wa => e = .returned (.bool true) ∧ wa.cell? ⟨p, 8, none⟩ = some (.map (some tm)) ∧
      (Instr.lookup 53 (.map (some tm)) (.int .i64 id) true).run Tryz.prog wa = .ok (.tuple #[.int .i64 t, .bool true]) wa ∧ ∀ ty, ∃ wb, (Builtin.delete_ #[53, 3] ty #[.map (some tm), .int .i64 id]).run Tryz.prog wa = .ok (.tuple #[]) wb ∧
        wb.cell? ⟨bq, 6, none⟩ = some (.bool b1.pinned) ∧ Calls Tryz.prog 69 #[vptr bq] wb (RetV (.bool b1.idle) wb) ∧
        (b1.idle = true ∧ b1.pinned = false → r = 0 ∧ ∀ m, Calls Tryz.prog 70 #[vptr p, vptr bq, .int .i64 t] (wb.drewN m) (Post (.tuple #[]) w g s s')) ∧ (¬ (b1.idle = true ∧ b1.pinned = false) → r = 0 ∧ ∀ m, ∃ g', To w g s (wb.drewN m) g' s')) := Lib.hid (by
    refine hbt.mono ?_
    rintro e wa ⟨rfl, h1⟩
    refine ⟨rfl, h1.use.til hp htm, ?_, fun ty => ?_⟩
    · have := h1.use.tilLook hi htm
      rw [show FM.get (s.setBox b1).til id = some t from ht] at this
      exact this
    · obtain ⟨wb, r2, h2, _⟩ := til_del h1.use htm hi ty
      have hbb : FM.get (s.setBox b1).boxes b1.id = some b1 := by show FM.get (FM.put s.boxes b1.id b1) b1.id = _; rw [FM.get_put, if_pos rfl]
      have hbq1 : g.ad (.box b1.id) = bq := by rw [hid1]; exact hbq
      have hbx := h2.use.box (s := { (s.setBox b1) with til := FM.del (s.setBox b1).til id }) hbb hbq1
      refine ⟨wb, r2, hbx.cell 6, idle_use h2.use hbb hbq1, fun hc => ?_, fun hc => ?_⟩
      · rw [if_pos hc] at hs
        obtain ⟨u, hu, e3⟩ := Option.map_eq_some_iff.1 hs
        cases e3
        refine ⟨rfl, fun m => ?_⟩
        refine (idle_any' (h2.use.drewN m) hp hbb hbq1 hu).mono ?_
        rintro e w5 ⟨he, g5, h5⟩
        exact ⟨he, g5, ((h1.all.trans h2.all).drewN m).trans h5⟩
      · rw [if_neg hc] at hs
        cases hs
        exact ⟨rfl, fun m => ⟨g, (h1.all.trans h2.all).drewN m⟩⟩)
  obtain ⟨now, hnow⟩ : ∃ n, n = s.now := ⟨_, rfl⟩
  rw [← hnow] at c0 HCH
  obtain ⟨bi, hbi⟩ : ∃ x, x = b1.idle := ⟨_, rfl⟩
  obtain ⟨bp, hbp⟩ : ∃ x, x = b1.pinned := ⟨_, rfl⟩
  rw [← hbi, ← hbp] at HCH
  clear st hb hp hbm hi hid hb' hbt h0 hnow hbq hs hb1 hid1 hpin hbi hbp ht htm
  go_enter Tryz.func29, Tryz.ntmps29
  cases bi
  · go_wp2_with (first
      | (go_at_call 67; refine HCH.out.mono ?_; rintro e w2 ⟨rfl, d8, dl, hd⟩; obtain ⟨wb, r2, d6, hidl, hyes, hno⟩ := hd 0; have HIDL := Lib.hid hidl; have HNO := Lib.hid (hno (by simp)); clear hd hidl hyes hno)
      | (go_at_call 69; refine HIDL.out.mono ?_; rintro e w4 ⟨rfl, n8, rfl⟩))
    go_ret
    exact ⟨by rw [HNO.out.1]; rfl, HNO.out.2 _⟩
  · cases bp
    · go_wp2_with (first
        | (go_at_call 67; refine HCH.out.mono ?_; rintro e w2 ⟨rfl, d8, dl, hd⟩; obtain ⟨wb, r2, d6, hidl, hyes, hno⟩ := hd 0; have HIDL := Lib.hid hidl; have HYES := Lib.hid (hyes (by simp)); clear hd hidl hyes hno)
        | (go_at_call 69; refine HIDL.out.mono ?_; rintro e w4 ⟨rfl, n8, rfl⟩)
        | (go_at_call 70; refine (HYES.out.2 _).mono ?_; rintro e w5 ⟨rfl, hr⟩; have HR := Lib.hid hr; clear hr))
      go_ret
      exact ⟨by rw [HYES.out.1]; rfl, HR.out⟩
    · go_wp2_with (first
        | (go_at_call 67; refine HCH.out.mono ?_; rintro e w2 ⟨rfl, d8, dl, hd⟩; obtain ⟨wb, r2, d6, hidl, hyes, hno⟩ := hd 0; have HIDL := Lib.hid hidl; have HNO := Lib.hid (hno (by simp)); clear hd hidl hyes hno)
        | (go_at_call 69; refine HIDL.out.mono ?_; rintro e w4 ⟨rfl, n8, rfl⟩))
      go_ret
      exact ⟨by rw [HNO.out.1]; rfl, HNO.out.2 _⟩
set_option maxRecDepth 100000 in
set_option maxHeartbeats 4000000 in
theorem booted_win {w : World} {g : G} {s s' : Core} {p : Nat} {id r : Int} {b : Box} (st : St w g s) (hp : g.ad .core = p) (hi : W64 id) (hb : FM.get s.boxes id = some b) (h0 : b.st = 0) (ht : FM.get s.til id = none) (hs : s.booted id = some (r, s')) : Calls Tryz.prog 29 #[vptr p, .int .i64 id] w (Post (.int .i64 r) w g s s') := by
  obtain ⟨bm, hbm⟩ : ∃ t, g.ad .boxes = t := ⟨_, rfl⟩
  obtain ⟨tm, htm⟩ : ∃ t, g.ad .til = t := ⟨_, rfl⟩
  have c7 := st.boxes hp hbm
  have c0 := st.now hp
  have hl := st.look hi hbm
  rw [hb] at hl
  obtain ⟨bq, hbq⟩ : ∃ t, g.ad (.box id) = t := ⟨_, rfl⟩
  simp only [Option.map_some, Option.getD_some, hbq] at hl
  have hid := (st.good.boxes _ _ hb).1
  have hb' : FM.get s.boxes b.id = some b := by rw [hid]; exact hb
  have hbt := bbooted_use (q := bq) st hb' (by rw [hid]; exact hbq)
  rw [if_pos h0, show (b.st == 0) = true from by simpa using h0] at hbt
  unfold Core.booted at hs
  rw [hb, ht] at hs
  simp only [h0, ne_eq, not_true_eq_false, if_false] at hs
  obtain ⟨b1, hb1⟩ : ∃ x, x = b.booted s.now := ⟨_, rfl⟩
  rw [← hb1] at hs hbt
  have hid1 : b1.id = id := by rw [hb1, booted_id, hid]
  have hpin : b1.pinned = b.pinned := by rw [hb1, booted_pinned]
  rw [← hpin] at hs
  have hfn1 : b1.fn = b.fn := by rw [hb1]; unfold Box.booted; split <;> rfl
  have hfb := (st.good.boxes _ _ hb).2.2.2.fn
  cases hx : FM.get s.fns b.fn with
  | none =>
    have e9 : Core.window { (s.setBox b1) with til := FM.del (s.setBox b1).til id } b.fn = none := by unfold Core.window; show Option.map _ (FM.get s.fns b.fn) = none; rw [hx]; rfl
    rw [e9] at hs
    cases hs
  | some x =>
  have e9 : Core.window { (s.setBox b1) with til := FM.del (s.setBox b1).til id } b.fn = some (win x.hist x.ring) := by unfold Core.window; show Option.map _ (FM.get s.fns b.fn) = _; rw [hx]; rfl
  rw [e9] at hs
  simp only [Option.map_some] at hs
  obtain ⟨wi, hwi⟩ : ∃ wi, wi = win x.hist x.ring := ⟨_, rfl⟩
  have hwb := win_bd x.hist x.ring
  rw [← hwi] at hs hwb
  have hnb := st.good.now
  have hsum : s.now + wi.fin = (s.setBox b1).now + wi.fin := rfl
  have en : (({ (s.setBox b1) with til := FM.del (s.setBox b1).til id } : Core).now + wi.fin) = s.now + wi.fin := rfl
  rw [en] at hs
  have HCH : Hid (Calls Tryz.prog 67 #[vptr bq, .int .i64 s.now] w fun e wa => e = .returned (.bool true) ∧ wa.cell? ⟨p, 8, none⟩ = some (.map (some tm)) ∧
      (Instr.lookup 53 (.map (some tm)) (.int .i64 id) true).run Tryz.prog wa = .ok (.tuple #[.int .i64 0, .bool false]) wa ∧ ∀ ty, ∃ wb, (Builtin.delete_ #[53, 3] ty #[.map (some tm), .int .i64 id]).run Tryz.prog wa = .ok (.tuple #[]) wb ∧
        ∀ W, Below wb.heap.size wb W → (W.cell? ⟨p, 0, none⟩ = some (.int .i64 s.now) ∧ W.cell? ⟨bq, 1, none⟩ = some (.int .i64 b.fn)) ∧ Calls Tryz.prog 68 #[vptr p, .int .i64 b.fn] W (RetW wi W) ∧ W.cell? ⟨bq, 6, none⟩ = some (.bool b1.pinned) ∧ Calls Tryz.prog 69 #[vptr bq] W (RetV (.bool b1.idle) W) ∧
        (b1.idle = true ∧ b1.pinned = false → r = 0 ∧ Calls Tryz.prog 70 #[vptr p, vptr bq, .int .i64 (s.now + wi.fin)] W (Post (.tuple #[]) w g s s')) ∧ (¬ (b1.idle = true ∧ b1.pinned = false) → r = 0 ∧ ∃ g', To w g s W g' s')) := Lib.hid (by
    refine hbt.mono ?_
    rintro e wa ⟨rfl, h1⟩
    refine ⟨rfl, h1.use.til hp htm, ?_, fun ty => ?_⟩
    · have := h1.use.tilLook hi htm
      rw [show FM.get (s.setBox b1).til id = none from ht] at this
      exact this
    · obtain ⟨wb, r2, h2, _⟩ := til_del h1.use htm hi ty
      have hbb : FM.get (s.setBox b1).boxes b1.id = some b1 := by show FM.get (FM.put s.boxes b1.id b1) b1.id = _; rw [FM.get_put, if_pos rfl]
      have hbq1 : g.ad (.box b1.id) = bq := by rw [hid1]; exact hbq
      refine ⟨wb, r2, fun W hbW => ?_⟩
      have st2 := h2.use.below hbW
      have hbx := st2.box (s := { (s.setBox b1) with til := FM.del (s.setBox b1).til id }) hbb hbq1
      have hwn := window_any st2 hp (f := b.fn) (x := x) hx
      rw [← hwi] at hwn
      refine ⟨⟨st2.now hp, (hbx.cell 1).trans (by rw [← hfn1]; rfl)⟩, hwn, hbx.cell 6, idle_use st2 hbb hbq1, fun hc => ?_, fun hc => ?_⟩
      · rw [if_pos hc] at hs
        obtain ⟨u, hu, e3⟩ := Option.map_eq_some_iff.1 hs
        cases e3
        refine ⟨rfl, ?_⟩
        refine (idle_any' st2 hp hbb hbq1 hu).mono ?_
        rintro e w5 ⟨he, g5, h5⟩
        exact ⟨he, g5, ((h1.all.trans h2.all).then hbW).trans h5⟩
      · rw [if_neg hc] at hs
        cases hs
        exact ⟨rfl, ⟨g, (h1.all.trans h2.all).then hbW⟩⟩)
  obtain ⟨now, hnow⟩ : ∃ n, n = s.now := ⟨_, rfl⟩
  rw [← hnow] at c0 HCH hnb
  obtain ⟨fin, hfin⟩ : ∃ n, n = wi.fin := ⟨_, rfl⟩
  have hwv : wi.val = .agg #[.int .i64 wi.how, .int .i64 wi.pre, .int .i64 wi.fin] := rfl
  rw [← hfin] at HCH hwb hwv
  obtain ⟨bi, hbi⟩ : ∃ x, x = b1.idle := ⟨_, rfl⟩
  obtain ⟨bp, hbp⟩ : ∃ x, x = b1.pinned := ⟨_, rfl⟩
  obtain ⟨fn, hfn⟩ : ∃ x, x = b.fn := ⟨_, rfl⟩
  rw [← hbi, ← hbp, ← hfn] at HCH
  have hsm : -9223372036854775808 ≤ now + fin ∧ now + fin < 9223372036854775808 := by omega
  have hnum := hwb.2.1
  clear st hb hp hbm hi hid hb' hbt h0 hnow hbq hs hb1 hid1 hpin hbi hbp ht htm hx hwi e9 hfb hfn1 hfn hsum en hfin
  go_enter Tryz.func29, Tryz.ntmps29
  go_wp2_with (go_at_call 67; refine HCH.out.mono ?_; rintro e w2 ⟨rfl, d8, dl, hd⟩; obtain ⟨wb, r2, hd2⟩ := hd 0; have HD := Lib.hid hd2; clear hd hd2)
  have HWN : Hid (∀ m, Calls Tryz.prog 68 #[vptr p, .int .i64 fn] (wb.drewN m) (fun e W' => e = .returned (.agg #[.int .i64 wi.how, .int .i64 wi.pre, .int .i64 fin]) ∧ (W'.cell? ⟨p, 0, none⟩ = some (.int .i64 now) ∧ W'.cell? ⟨bq, 1, none⟩ = some (.int .i64 fn)) ∧ Below wb.heap.size wb W')) := Lib.hid fun m => by
    have hbm := below_drewN (Below.refl wb.heap.size wb) m
    refine (HD.out _ hbm).2.1.mono ?_
    rintro e W' ⟨rfl, hb'⟩
    have hbw := below_step hbm hb'
    exact ⟨by rw [hwv], (HD.out _ hbw).1, hbw⟩
  obtain ⟨a0, a1⟩ := (HD.out wb (Below.refl _ _)).1
  have hfd := fun W => win_field wi.how wi.pre fin W
  go_cut [6] (fun v wx => v = .int .i64 (now + fin) ∧ Below wb.heap.size wb wx)
  case first =>
    go_region_held3 (fun W => W.cell? ⟨p, 0, none⟩ = some (.int .i64 now) ∧ W.cell? ⟨bq, 1, none⟩ = some (.int .i64 fn))
      (first | assumption | (refine ⟨?_, ?_⟩ <;> first | assumption | go_keep))
      (first
        | (go_at_call 68; refine (HWN.out _).mono ?_; rintro e W5 ⟨rfl, hs5, hb5⟩; have HB5 := Lib.hid hb5; clear hb5))
    all_goals (go_wp2_with fail; go_meet; exact ⟨congrArg (Value.int .i64) (IntWalk.i64_in _ (by omega)), HB5.out⟩)
  case rest =>
    obtain ⟨rfl, hbw⟩ := hcut
    obtain ⟨_, _, d6, hidl, hyes, hno⟩ := HD.out _ hbw
    have HIDL := Lib.hid hidl
    have HB := Lib.hid hbw
    clear hidl hyes hno hbw a0 a1
    cases bi
    · go_wp2_with (go_at_call 69; refine HIDL.out.mono ?_; rintro e w4 ⟨rfl, n8, rfl⟩)
      go_ret
      have hno := (HD.out _ (below_drewN HB.out n8)).2.2.2.2.2 (by simp)
      exact ⟨by rw [hno.1]; rfl, hno.2⟩
    · cases bp
      · have HYES : Hid (∀ m, r = 0 ∧ Calls Tryz.prog 70 #[vptr p, vptr bq, .int .i64 (now + fin)] (wc.drewN m) (Post (.tuple #[]) w g s s')) := Lib.hid fun m => (HD.out _ (below_drewN HB.out m)).2.2.2.2.1 (by simp)
        go_wp2_with (first
          | (go_at_call 69; refine HIDL.out.mono ?_; rintro e w4 ⟨rfl, n8, rfl⟩)
          | (go_at_call 70; refine (HYES.out _).2.mono ?_; rintro e w5 ⟨rfl, hr⟩; have HR := Lib.hid hr; clear hr))
        go_ret
        exact ⟨by rw [(HYES.out 0).1]; rfl, HR.out⟩
      · go_wp2_with (go_at_call 69; refine HIDL.out.mono ?_; rintro e w4 ⟨rfl, n8, rfl⟩)
        go_ret
        have hno := (HD.out _ (below_drewN HB.out n8)).2.2.2.2.2 (by simp)
        exact ⟨by rw [hno.1]; rfl, hno.2⟩
theorem booted_any' {w : World} {g : G} {s s' : Core} {p : Nat} {id r : Int} (st : St w g s) (hp : g.ad .core = p) (hi : W64 id) (hs : s.booted id = some (r, s')) : Calls Tryz.prog 29 #[vptr p, .int .i64 id] w (Post (.int .i64 r) w g s s') := by
  cases hb : FM.get s.boxes id with
  | none =>
    unfold Core.booted at hs
    rw [hb] at hs
    cases hs
    exact booted_none st hp hi hb
  | some b =>
    by_cases h0 : b.st = 0
    · cases ht : FM.get s.til id with
      | none => exact booted_win st hp hi hb h0 ht hs
      | some t => exact booted_til st hp hi hb h0 ht hs
    · unfold Core.booted at hs
      rw [hb] at hs
      simp only [ne_eq, h0, not_false_eq_true, if_true] at hs
      cases hs
      exact booted_late st hp hi hb h0
end Go.Proofs.YtjmdgicdpggljaaGreat.GH

/- Proved: what core's Now answers. -/
namespace Go.Proofs.YtjmdgicdpggljaaGreat.GH
open Go.RowKit Go.Proofs.YtjmdgicdpggljaaGreat.Histo
set_option linter.unusedVariables false
theorem now_any {w : World} {g : G} {s : Core} {p : Nat} (st : St w g s) (hp : g.ad .core = p) : Calls Tryz.prog 9 #[vptr p] w (RetV (.int .i64 s.now) w) := by
  have c0 := st.now hp
  obtain ⟨now, hnow⟩ : ∃ n, n = s.now := ⟨_, rfl⟩
  rw [← hnow] at c0 ⊢
  clear st hp hnow
  go_enter Tryz.func9, Tryz.ntmps9
  go_wp2
  go_ret
  exact ⟨rfl, 0, rfl⟩
end Go.Proofs.YtjmdgicdpggljaaGreat.GH

/- Proved: what core's done leaves. -/
namespace Go.Proofs.YtjmdgicdpggljaaGreat.GH
open Go.RowKit Go.Maps Go.Sort Go.Shelf Go.Proofs.YtjmdgicdpggljaaGreat.Histo Go.Proofs.YtjmdgicdpggljaaGreat.Event Go.Proofs.YtjmdgicdpggljaaGreat.Ring
set_option linter.unusedVariables false
open Go.Proofs.YtjmdgicdpggljaaGreat.MapI (W64)
open Go.Proofs.YtjmdgicdpggljaaGreat.Policy (Win win RetW)
attribute [local go_sem] Oper.semAt_some

set_option maxRecDepth 100000 in
set_option maxHeartbeats 4000000 in
theorem done_none {w : World} {g : G} {s : Core} {p : Nat} {id : Int} (st : St w g s) (hp : g.ad .core = p) (hi : W64 id) (hb : FM.get s.boxes id = none) : Calls Tryz.prog 31 #[vptr p, .int .i64 id] w (Post (.int .i64 2) w g s s) := by
  obtain ⟨bm, hbm⟩ : ∃ t, g.ad .boxes = t := ⟨_, rfl⟩
  have c7 := st.boxes hp hbm
  have hl := st.look hi hbm
  rw [hb] at hl
  simp only [Option.map_none, Option.getD_none] at hl
  have HST := Lib.hid st
  clear st hb hp hbm hi
  go_enter Tryz.func31, Tryz.ntmps31
  go_wp2
  go_ret
  exact ⟨rfl, g, To.refl HST.out⟩
set_option maxRecDepth 100000 in
set_option maxHeartbeats 4000000 in
theorem done_early {w : World} {g : G} {s : Core} {p : Nat} {id : Int} {b : Box} (st : St w g s) (hp : g.ad .core = p) (hi : W64 id) (hb : FM.get s.boxes id = some b) (h0 : b.st ≠ 2) : Calls Tryz.prog 31 #[vptr p, .int .i64 id] w (Post (.int .i64 3) w g s s) := by
  obtain ⟨bm, hbm⟩ : ∃ t, g.ad .boxes = t := ⟨_, rfl⟩
  have c7 := st.boxes hp hbm
  have c0 := st.now hp
  have hl := st.look hi hbm
  rw [hb] at hl
  obtain ⟨bq, hbq⟩ : ∃ t, g.ad (.box id) = t := ⟨_, rfl⟩
  simp only [Option.map_some, Option.getD_some, hbq] at hl
  have hid := (st.good.boxes _ _ hb).1
  have hb' : FM.get s.boxes b.id = some b := by rw [hid]; exact hb
  have hbt := bdone_use (q := bq) st hb' (by rw [hid]; exact hbq)
  rw [if_neg h0, setBox_same st hb', show (b.st == 2) = false from by simpa using h0] at hbt
  have HBT := Lib.hid hbt
  obtain ⟨now, hnow⟩ : ∃ n, n = s.now := ⟨_, rfl⟩
  rw [← hnow] at c0 HBT
  clear st hb hp hbm hi hid hb' hbt h0 hnow hbq
  go_enter Tryz.func31, Tryz.ntmps31
  go_wp2_with (go_at_call 71; refine HBT.out.mono ?_; rintro e w2 ⟨rfl, ht⟩; have HT := Lib.hid ht; clear ht)
  go_ret
  exact ⟨rfl, g, HT.out.all⟩
set_option maxRecDepth 100000 in
set_option maxHeartbeats 8000000 in
theorem done_run {w : World} {g : G} {s s' : Core} {p : Nat} {id r : Int} {b : Box} (st : St w g s) (hp : g.ad .core = p) (hi : W64 id) (hb : FM.get s.boxes id = some b) (h0 : b.st = 2) (hs : s.done id = some (r, s')) : Calls Tryz.prog 31 #[vptr p, .int .i64 id] w (Post (.int .i64 r) w g s s') := by
  obtain ⟨bm, hbm⟩ : ∃ t, g.ad .boxes = t := ⟨_, rfl⟩
  obtain ⟨qm, hqm⟩ : ∃ t, g.ad .quota = t := ⟨_, rfl⟩
  obtain ⟨fm, hfm⟩ : ∃ t, g.ad .fns = t := ⟨_, rfl⟩
  obtain ⟨hm, hhm⟩ : ∃ t, g.ad .hosts = t := ⟨_, rfl⟩
  obtain ⟨tm, htm⟩ : ∃ t, g.ad .timers = t := ⟨_, rfl⟩
  obtain ⟨fq, hfq⟩ : ∃ t, g.ad (.fn b.fn) = t := ⟨_, rfl⟩
  have c7 := st.boxes hp hbm
  have c0 := st.now hp
  have hl := st.look hi hbm
  rw [hb] at hl
  obtain ⟨bq, hbq⟩ : ∃ t, g.ad (.box id) = t := ⟨_, rfl⟩
  simp only [Option.map_some, Option.getD_some, hbq] at hl
  have hid := (st.good.boxes _ _ hb).1
  have hb' : FM.get s.boxes b.id = some b := by rw [hid]; exact hb
  have hbt := bdone_use (q := bq) st hb' (by rw [hid]; exact hbq)
  rw [if_pos h0, show (b.st == 2) = true from by simpa using h0] at hbt
  unfold Core.done at hs
  rw [hb] at hs
  simp only [h0, ne_eq, not_true_eq_false, if_false] at hs
  cases hx : FM.get s.fns b.fn with
  | none => rw [hx] at hs; cases hs
  | some x =>
  have e9 : s.window b.fn = some (win x.hist x.ring) := by unfold Core.window; rw [hx]; rfl
  rw [hx, e9] at hs
  simp only at hs
  obtain ⟨wi, hwi⟩ : ∃ wi, wi = win x.hist x.ring := ⟨_, rfl⟩
  have hwb := win_bd x.hist x.ring
  rw [← hwi] at hs hwb
  have hnb := st.good.now
  obtain ⟨b1, hb1⟩ : ∃ y, y = ({ b with st := 1, since := s.now } : Box) := ⟨_, rfl⟩
  obtain ⟨x1, hx1⟩ : ∃ y, y = ({ x with last := s.now } : Fn) := ⟨_, rfl⟩
  obtain ⟨x2, hx2⟩ : ∃ y, y = ({ x with last := s.now, til := s.now + wi.fin } : Fn) := ⟨_, rfl⟩
  rw [← hb1] at hbt
  rw [← hb1, ← hx1, ← hx2] at hs
  have hid1 : b1.id = id := by rw [hb1]; exact hid
  have hfn1 : b1.fn = b.fn := by rw [hb1]
  have hhost1 : b1.host = b.host := by rw [hb1]
  have hpin1 : b1.pinned = b.pinned := by rw [hb1]
  have hbg := (st.good.boxes _ _ hb).2.2.2
  have wfn : W64 b.fn := (w64_box st.good hb).2.2
  obtain ⟨_, _, gx⟩ := st.good.fns _ _ hx
  have gx1 : x1.Good := by rw [hx1]; exact ⟨gx.acc, gx.mem, gx.cost, gx.keep, gx.often, ⟨by show -1 ≤ s.now; omega, hnb.2⟩, gx.til, gx.hist⟩
  have gx2 : x2.Good := by rw [hx2]; exact ⟨gx.acc, gx.mem, gx.cost, gx.keep, gx.often, ⟨by show -1 ≤ s.now; omega, hnb.2⟩, ⟨by show 0 ≤ s.now + wi.fin; omega, by show s.now + wi.fin ≤ 4398046511104; omega⟩, gx.hist⟩
  obtain ⟨s1, hs1⟩ : ∃ t, t = ({ (s.setBox b1) with quota := s.quota.fin b.fn, fns := FM.put s.fns b.fn x1 } : Core) := ⟨_, rfl⟩
  rw [← hs1] at hs
  have hsb : FM.get (s.setBox b1).boxes b1.id = some b1 := by show FM.get (FM.put s.boxes b1.id b1) b1.id = _; rw [FM.get_put, if_pos rfl]
  have hbb : FM.get s1.boxes b1.id = some b1 := by rw [hs1]; exact hsb
  have hbq1 : g.ad (.box b1.id) = bq := by rw [hid1]; exact hbq
  have hx1g : FM.get s1.fns b.fn = some x1 := by rw [hs1]; show FM.get (FM.put s.fns b.fn x1) b.fn = _; rw [FM.get_put, if_pos rfl]
  have hn1 : s1.now = s.now := by rw [hs1]; rfl
  have hh1 : s1.hosts = s.hosts := by rw [hs1]; rfl
  have ht1 : s1.timers = s.timers := by rw [hs1]; rfl
  -- End
  have HEND : Hid (∀ wa, ToS (fun t => t = .box b.id) w g s wa (s.setBox b1) → wa.cell? ⟨p, 2, none⟩ = some (vptr qm) ∧ wa.cell? ⟨bq, 1, none⟩ = some (.int .i64 b.fn) ∧
      Calls Tryz.prog 72 #[vptr qm, .int .i64 b.fn] wa.drew fun e wb => (∃ v, e = .returned v) ∧ To w g s wb g { (s.setBox b1) with quota := s.quota.fin b.fn }) := Lib.hid fun wa h1 => by
    have hbx := h1.use.box hsb hbq1
    refine ⟨h1.use.quota hp hqm, (hbx.cell 1).trans (by rw [← hfn1]; rfl), ?_⟩
    refine (qend_use h1.use.drew hqm b.fn).mono ?_
    rintro e wb ⟨he, h2⟩
    exact ⟨he, (h1.all.drew).trans h2.all⟩
  have HST : Hid (∀ wb, To w g s wb g { (s.setBox b1) with quota := s.quota.fin b.fn } → wb.cell? ⟨p, 4, none⟩ = some (.map (some fm)) ∧ wb.cell? ⟨p, 0, none⟩ = some (.int .i64 s.now) ∧ wb.cell? ⟨bq, 1, none⟩ = some (.int .i64 b.fn) ∧
      (∀ n, (Instr.lookup 48 (.map (some fm)) (.int .i64 b.fn) false).run Tryz.prog (wb.drewN n) = .ok (vptr fq) (wb.drewN n)) ∧ (∃ v, wb.cell? ⟨fq, 5, none⟩ = some v) ∧ wb.frozen? ⟨fq, 5, none⟩ = false ∧ ∀ n, To w g s ((wb.drewN n).setCell ⟨fq, 5, none⟩ (.int .i64 s.now)) g s1) := Lib.hid fun wb h1 => by
    have hbx := h1.st.box (s := { (s.setBox b1) with quota := s.quota.fin b.fn }) hsb hbq1
    have hfx := h1.st.fnBlk (s := { (s.setBox b1) with quota := s.quota.fin b.fn }) hx hfq
    refine ⟨h1.st.fns hp hfm, h1.st.now hp, (hbx.cell 1).trans (by rw [← hfn1]; rfl), fun n => ?_, ⟨_, hfx.cell 5⟩, hfx.frozen 5, fun n => ?_⟩
    · have := fns_look (h1.st.drewN n) wfn hfm
      rw [show FM.get ({ (s.setBox b1) with quota := s.quota.fin b.fn } : Core).fns b.fn = some x from hx] at this
      simp only [Option.map_some, Option.getD_some, hfq] at this
      exact this
    · have := To.fnField (h1.st.drewN n) (x := x) hx hfq 5 (.int .i64 s.now) (x' := x1) (fun h r => by rw [hx1]; rfl) (by rw [hx1]) (by rw [hx1]) gx1
      rw [hs1]
      exact (h1.drewN n).trans this.all
  have HWN : Hid (∀ wc, To w g s wc g s1 → wc.cell? ⟨bq, 1, none⟩ = some (.int .i64 b.fn) ∧ ∀ n, Calls Tryz.prog 68 #[vptr p, .int .i64 b.fn] (wc.drewN n) (fun e W' => e = .returned wi.val ∧ To w g s W' g s1)) := Lib.hid fun wc h1 => by
    have hbx := h1.st.box hbb hbq1
    refine ⟨(hbx.cell 1).trans (by rw [← hfn1]; rfl), fun n => ?_⟩
    have hwn := window_any (h1.st.drewN n) hp hx1g
    rw [show win x1.hist x1.ring = wi from by rw [hwi, hx1]] at hwn
    refine hwn.mono ?_
    rintro e W' ⟨he, hbw⟩
    exact ⟨he, (h1.drewN n).then hbw⟩
  have HUP : Hid (∀ W, To w g s W g s1 → W.cell? ⟨p, 0, none⟩ = some (.int .i64 s.now) ∧ W.cell? ⟨p, 5, none⟩ = some (vptr hm) ∧ W.cell? ⟨bq, 2, none⟩ = some (.int .i64 b.host) ∧ W.cell? ⟨bq, 6, none⟩ = some (.bool b.pinned) ∧ ∀ n, Calls Tryz.prog 73 #[vptr hm, .int .i64 b.host] (W.drewN n) (RetV (.bool (s.hosts.up b.host)) (W.drewN n))) := Lib.hid fun W h1 => by
    have hbx := h1.st.box hbb hbq1
    refine ⟨(h1.st.now hp).trans (by rw [hn1]), h1.st.hosts hp hhm, (hbx.cell 2).trans (by rw [← hhost1]; rfl), (hbx.cell 6).trans (by rw [← hpin1]; rfl), fun n => ?_⟩
    have := hup_use (h1.st.drewN n) hhm b.host
    rw [hh1] at this
    exact this
  have HFIN : Hid (∀ W, To w g s W g s1 →
      (s.hosts.up b.host = false → r = 0 ∧ Calls Tryz.prog 42 #[vptr p, vptr bq] W (Post (.tuple #[]) w g s s')) ∧
      (s.hosts.up b.host = true → b.pinned = true → r = 0 ∧ ∃ g', To w g s W g' s') ∧
      (s.hosts.up b.host = true → b.pinned = false → 0 < wi.pre → r = 0 ∧ W.frozen? ⟨fq, 6, none⟩ = false ∧ (∃ v, W.cell? ⟨fq, 6, none⟩ = some v) ∧ ∀ W', W' = W.setCell ⟨fq, 6, none⟩ (.int .i64 (s.now + wi.fin)) → ∀ W4, Below W'.heap.size W' W4 → W4.cell? ⟨p, 9, none⟩ = some (vptr tm) ∧ W4.cell? ⟨p, 0, none⟩ = some (.int .i64 s.now) ∧ W4.cell? ⟨bq, 1, none⟩ = some (.int .i64 b.fn) ∧ Calls Tryz.prog 74 #[vptr tm, kvalT ⟨1, b.fn⟩, .int .i64 (s.now + wi.pre)] W4 fun e wE => e = .returned (.tuple #[]) ∧ Calls Tryz.prog 42 #[vptr p, vptr bq] wE (Post (.tuple #[]) w g s s')) ∧
      (s.hosts.up b.host = true → b.pinned = false → ¬ 0 < wi.pre → r = 0 ∧ W.cell? ⟨p, 0, none⟩ = some (.int .i64 s.now) ∧ Calls Tryz.prog 70 #[vptr p, vptr bq, .int .i64 (s.now + wi.fin)] W (Post (.tuple #[]) w g s s'))) := Lib.hid fun W h1 => by
    refine ⟨fun hu => ?_, fun hu hpn => ?_, fun hu hpn hpr => ?_, fun hu hpn hpr => ?_⟩
    · rw [if_pos hu] at hs
      obtain ⟨u, hu, e3⟩ := Option.map_eq_some_iff.1 hs
      cases e3
      refine ⟨rfl, (kill_use h1.st hp hbb hbq1 hu).mono ?_⟩
      rintro e w5 ⟨he, g5, h5⟩
      exact ⟨he, g5, h1.trans h5⟩
    · rw [if_neg (by rw [hu]; simp), if_pos hpn] at hs
      cases hs
      exact ⟨rfl, g, h1⟩
    · rw [if_neg (by rw [hu]; simp), if_neg (by rw [hpn]; simp), if_pos hpr] at hs
      split at hs
      · cases hs
      next hlt =>
      obtain ⟨u, hu, e3⟩ := Option.map_eq_some_iff.1 hs
      cases e3
      have hfx := h1.st.fnBlk hx1g hfq
      refine ⟨rfl, hfx.frozen 6, ⟨_, hfx.cell 6⟩, ?_⟩
      rintro W' rfl W4 hb4
      have h2' := (To.fnField h1.st (x := x1) hx1g hfq 6 (.int .i64 (s.now + wi.fin)) (x' := x2) (fun h r => by rw [hx1, hx2]; rfl) (by rw [hx1, hx2]) (by rw [hx1, hx2]) gx2).all
      have h2 := h2'.then hb4
      have hbx := h2.st.box (s := { s1 with fns := FM.put s1.fns b.fn x2 }) hbb hbq1
      refine ⟨h2.st.timers hp htm, (h2.st.now hp).trans (by show some (Value.int .i64 s1.now) = _; rw [hn1]), (hbx.cell 1).trans (by rw [← hfn1]; rfl), ?_⟩
      refine (tset_use (k := ⟨1, b.fn⟩) (x := s.now + wi.pre) h2.st htm ⟨MapI.w64 (by show (-9223372036854775808 : Int) ≤ 1; decide) (by show (1 : Int) ≤ 9223372036854775807; decide), wfn⟩ (by show s1.timers.length < _; rw [ht1]; omega)).mono ?_
      rintro e wE ⟨he, g3, h3⟩
      refine ⟨he, ?_⟩
      have e7 := h3.ad (.box b1.id) (box_keep h2.st.good (s := { s1 with fns := FM.put s1.fns b.fn x2 }) hbb)
      refine (kill_use (s' := s') h3.st ((h3.head (t := .core) trivial).trans hp) hbb (e7.trans hbq1) (by rw [hs1]; exact hu)).mono ?_
      rintro e w5 ⟨he, g5, h5⟩
      exact ⟨he, g5, (h1.trans h2).trans (h3.trans h5)⟩
    · rw [if_neg (by rw [hu]; simp), if_neg (by rw [hpn]; simp), if_neg hpr] at hs
      obtain ⟨u, hu, e3⟩ := Option.map_eq_some_iff.1 hs
      cases e3
      refine ⟨rfl, (h1.st.now hp).trans (by rw [hn1]), (idle_any' h1.st hp hbb hbq1 hu).mono ?_⟩
      rintro e w5 ⟨he, g5, h5⟩
      exact ⟨he, g5, h1.trans h5⟩
  have HBT := Lib.hid hbt
  obtain ⟨now, hnow⟩ : ∃ n, n = s.now := ⟨_, rfl⟩
  obtain ⟨fn, hfn⟩ : ∃ n, n = b.fn := ⟨_, rfl⟩
  obtain ⟨ho, hho⟩ : ∃ n, n = b.host := ⟨_, rfl⟩
  obtain ⟨pn, hpn⟩ : ∃ n, n = b.pinned := ⟨_, rfl⟩
  obtain ⟨up, hup⟩ : ∃ n, n = s.hosts.up b.host := ⟨_, rfl⟩
  rw [← hup] at HFIN HUP
  rw [← hnow] at c0 HST HFIN HBT HUP hnb
  rw [← hfn] at HEND HST HWN HFIN
  rw [← hho] at HUP
  rw [← hpn] at HUP HFIN
  have HFL : Hid (fq < w.heap.size) := Lib.hid (by rw [← hfq]; exact (st.fnAt hx).blk.lv.lt)
  clear hs hx hb hb' hbt h0 hnow hfn hho hpn hup hid hid1 hfn1 hhost1 hpin1 hbg wfn gx gx1 gx2 hs1 hsb hbb hbq1 hx1g hn1 hh1 ht1 hb1 hx1 hx2 e9 hwi hp hbm hqm hfm hhm htm hfq hbq hi st
  obtain ⟨how, pre, fin⟩ := wi
  simp only at HFIN HWN hwb
  go_enter Tryz.func31, Tryz.ntmps31
  go_wp2_with (go_at_call 71; refine HBT.out.mono ?_; rintro e wa ⟨rfl, ht⟩; obtain ⟨d2, d1, hend⟩ := HEND.out wa ht; have HE := Lib.hid hend; clear ht hend)
  go_still_tail 8, (by kernel_rfl)
  change wpList _ _ _ _ _ wa.drew
  go_wp2_with (go_at_call 72; refine HE.out.mono ?_; rintro e wb ⟨⟨v, rfl⟩, ht⟩; obtain ⟨f4, f0, f1, flk, ⟨v5, f5⟩, fz, hst⟩ := HST.out wb ht; have HS := Lib.hid hst; clear ht hst)
  go_quiet (fail)
  have hw8 := HS.out nq
  go_upto_region 9 with (fail)
  generalize (wb.drewN nq).setCell _ _ = w8 at hw8 ⊢
  obtain ⟨k1, hwn⟩ := HWN.out w8 hw8
  have HW := Lib.hid hwn
  have HT8 := Lib.hid hw8
  clear hw8 hwn f4 f0 f1 flk f5 fz d1 d2 c0 c7 hl
  go_upto_region 11 with (go_at_call 68; refine (HW.out 0).mono ?_; rintro e w9 ⟨rfl, ht⟩; have HT9 := Lib.hid ht; clear ht; unfold Win.val)
  have ht := HT9.out.then ((Below.refl _ w9).alloc (Nat.le_refl _) (.cells #[.int .i64 how, .int .i64 pre, .int .i64 fin] 151))
  have hbw := Blk.new w9 151 #[.int .i64 how, .int .i64 pre, .int .i64 fin]
  have hne : fq ≠ w9.heap.size := by have := HFL.out; have := HT9.out.step.size; omega
  generalize w9.alloc _ = W at ht hbw ⊢
  generalize w9.heap.size = Bw at hbw hne ⊢
  obtain ⟨u0, u5, u2, u6, hup⟩ := HUP.out W ht
  have HUPN := Lib.hid hup
  have HUP0 := Lib.hid (hup 0)
  clear hup
  go_quiet ((go_at_call 73; first | exact Calls.quiet_of HUP0.out | exact Calls.quiet_of (HUPN.out _)))
  have ht2 := ht.drewN nq
  have hbw2 := hbw.drewN nq
  clear ht hbw u0 u5 u2 u6 HUPN HUP0
  generalize W.drewN nq = W2 at ht2 hbw2 ⊢
  obtain ⟨u0, u5, u2, u6, _⟩ := HUP.out W2 ht2
  obtain ⟨hA, hB, hC, hD⟩ := HFIN.out W2 ht2
  have v1 : W2.cell? ⟨Bw, 1, none⟩ = some (.int .i64 pre) := hbw2.cell 1
  have v2 : W2.cell? ⟨Bw, 2, none⟩ = some (.int .i64 fin) := hbw2.cell 2
  have s9 : wrap64 (now + fin) = now + fin := IntWalk.wrap64_in _ (by omega)
  have s8 : wrap64 (now + pre) = now + pre := IntWalk.wrap64_in _ (by omega)
  have HBW := Lib.hid hbw2
  have HNE := Lib.hid hne
  have HT2 := Lib.hid ht2
  clear ht2 hbw2 hne
  cases up with
  | false =>
    obtain ⟨rfl, hk⟩ := hA rfl
    have HK := Lib.hid hk
    clear hA hB hC hD hk
    go_wp2_with (go_at_call 42; refine HK.out.mono ?_; rintro e w5 ⟨rfl, hr⟩; have HR := Lib.hid hr; clear hr)
    go_ret
    exact ⟨rfl, HR.out⟩
  | true =>
    cases pn with
    | true =>
      obtain ⟨rfl, hr⟩ := hB rfl rfl
      have HR := Lib.hid hr
      clear hA hB hC hD hr
      go_wp2
      go_ret
      exact ⟨rfl, HR.out⟩
    | false =>
      by_cases hpr : 0 < pre
      · have d9 : decide (0 < pre) = true := by simpa using hpr
        obtain ⟨rfl, fz6, ⟨v6, f6⟩, hset⟩ := hC rfl rfl hpr
        have HSET := Lib.hid hset
        clear hA hB hC hD hset
        go_wp2
        go_region
        have hset := HSET.out _ rfl
        have hbw3 : Blk (W2.setCell ⟨fq, 6, none⟩ (.int .i64 (now + fin))) Bw 151 #[.int .i64 how, .int .i64 pre, .int .i64 fin] := ((only_setCell (only_refl W2 (some fq)) (.inl rfl) _).block Bw HBW.out.lt (fun e => HNE.out (by injection e with e; exact e.symm))).trans HBW.out
        clear v1 v2 u0 u5 u2 u6 fz6 f6
        generalize W2.setCell _ _ = W3 at hset hbw3 ⊢
        have hset1 := hset W3.drew (below_drewN (Below.refl _ W3) 1)
        have hset2 := fun n => (hset (W3.drew.drewN n) (below_drewN (below_drewN (Below.refl W3.heap.size W3) 1) n)).2.2.2
        have hbw4 := hbw3.drewN 1
        have v1 : W3.drew.cell? ⟨Bw, 1, none⟩ = some (.int .i64 pre) := hbw4.cell 1
        generalize W3.drew = W4 at hset1 hset2 v1 ⊢
        obtain ⟨x9, x0, x1, _⟩ := hset1
        have HS2 := Lib.hid (hset2 1)
        clear hset hset2 hbw3 hbw4
        go_wp2
        go_still_tail 16, (by kernel_rfl)
        change wpList _ _ _ _ _ W4.drew
        go_wp2_with (first
          | (go_at_call 74; refine HS2.out.mono ?_; rintro e w4 ⟨rfl, hk⟩; have HK := Lib.hid hk; clear hk)
          | (go_at_call 42; refine HK.out.mono ?_; rintro e w5 ⟨rfl, hr⟩; have HR := Lib.hid hr; clear hr))
        go_ret
        exact ⟨rfl, HR.out⟩
      · have d9 : decide (0 < pre) = false := by simpa using hpr
        obtain ⟨rfl, _, hk⟩ := hD rfl rfl (by omega)
        have hk1 := (HFIN.out W2.drew HT2.out.drew).2.2.2 rfl rfl (by omega) |>.2.2
        have HKN : Hid (Calls Tryz.prog 70 #[vptr p, vptr bq, .int .i64 (now + fin)] W2.drew (Post (.tuple #[]) w g s s')) := Lib.hid hk1
        clear hA hB hC hD hk hk1 hpr
        go_wp2
        go_still_tail 9, (by kernel_rfl)
        change wpList _ _ _ _ _ W2.drew
        go_wp2_with (go_at_call 70; refine HKN.out.mono ?_; rintro e w5 ⟨rfl, hr⟩; have HR := Lib.hid hr; clear hr)
        go_ret
        exact ⟨rfl, HR.out⟩
theorem done_any {w : World} {g : G} {s s' : Core} {p : Nat} {id r : Int} (st : St w g s) (hp : g.ad .core = p) (hi : W64 id) (hs : s.done id = some (r, s')) : Calls Tryz.prog 31 #[vptr p, .int .i64 id] w (Post (.int .i64 r) w g s s') := by
  cases hb : FM.get s.boxes id with
  | none =>
    unfold Core.done at hs
    rw [hb] at hs
    cases hs
    exact done_none st hp hi hb
  | some b =>
    by_cases h0 : b.st = 2
    · exact done_run st hp hi hb h0 hs
    · unfold Core.done at hs
      rw [hb] at hs
      simp only [ne_eq, h0, not_false_eq_true, if_true] at hs
      cases hs
      exact done_early st hp hi hb h0
end Go.Proofs.YtjmdgicdpggljaaGreat.GH

/- Proved: what the methods of an account's tokens leave of the core; a new account's tokens. -/
namespace Go.Proofs.YtjmdgicdpggljaaGreat.GH
open Go.RowKit Go.Proofs.YtjmdgicdpggljaaGreat.Histo Go.Proofs.YtjmdgicdpggljaaGreat.Event Go.Proofs.YtjmdgicdpggljaaGreat.Ring
set_option linter.unusedVariables false
open Go.Proofs.YtjmdgicdpggljaaGreat.MapG (Codec Mk)
open Go.Proofs.YtjmdgicdpggljaaGreat.MapI (AL At Rng W64)
section
variable {w w' : World} {g : G} {s : Core} {q : Nat}

theorem Good.tok (gd : Good s) {a : Int} {k : Bkt} (ha : 0 ≤ a ∧ a < 16) (hk : k.Ok) : Good { s with toks := FM.put s.toks a k } := by
  refine ⟨gd.now, gd.next, fun b x hx => ?_, gd.fns, gd.caches, gd.boxes, gd.til, gd.ans, gd.outs⟩
  have hx2 : FM.get (FM.put s.toks a k) b = some x := hx
  rw [FM.get_put] at hx2
  by_cases e : b = a
  · subst e; rw [if_pos rfl] at hx2; cases hx2
    exact ⟨ha.1, ha.2, hk⟩
  · rw [if_neg e] at hx2; exact gd.toks b x hx2
theorem To.tok (st : St w g s) {a : Int} {k0 k : Bkt} (hb : FM.get s.toks a = some k0) (hq : g.ad (.tok a) = q) (hg : k.Ok) (hbk : Blk w' q 161 k.cells) (hgr : w.grownBy w' (some q)) : ToS (fun t => t = .tok a) w g s w' { s with toks := FM.put s.toks a k } := by
  subst hq
  obtain ⟨ov, m⟩ := st.mem
  have s1 : Step (fun t => t = .tok a) w g w' g := Step.of_grown hgr (fun k e => by cases e; exact (m.toks.each _ _ hb).lv.own)
  obtain ⟨h0, h1, _⟩ := st.good.toks _ _ hb
  refine ToS.mk' (m.turn s1 { s with toks := FM.put s.toks a k } ov (fun _ _ => rfl) (toks := .inr (m.toks.one hb s1 hbk))) (st.good.tok ⟨h0, h1⟩ hg) s1 (by simp) (fun t ht => ?_)
  cases t <;> first | exact ht | exact kept_put ht
theorem Bkt.Ok.new' (s r : Int) : (Bkt.new s r).Ok := by
  have h : ∀ n, 0 ≤ Bkt.bd n ∧ Bkt.bd n ≤ 1000 := fun n => by unfold Bkt.bd; omega
  exact ⟨h s, h r, h s⟩
theorem St.tok (h : St w g s) {a : Int} {k : Bkt} (hb : FM.get s.toks a = some k) (hq : g.ad (.tok a) = q) : Blk w q 161 k.cells := by subst hq; obtain ⟨ov, m⟩ := h.mem; exact (m.toks.each _ _ hb).blk
theorem kset_use (st : St w g s) {a : Int} {k : Bkt} (hb : FM.get s.toks a = some k) (hq : g.ad (.tok a) = q) (x y : Int) : Calls Tryz.prog 45 #[vptr q, .int .i64 x, .int .i64 y] w fun e w' => e = .returned (.tuple #[]) ∧ ToS (fun t => t = .tok a) w g s w' { s with toks := FM.put s.toks a (k.set_ x y) } := by
  refine (kset_any q k x y w (st.tok hb hq)).mono ?_
  rintro e w' ⟨rfl, h1, h2⟩
  exact ⟨rfl, To.tok st hb hq ((st.good.toks _ _ hb).2.2.set_ x y) h1 h2⟩
theorem ktake_use (st : St w g s) {a : Int} {k : Bkt} (hb : FM.get s.toks a = some k) (hq : g.ad (.tok a) = q) : Calls Tryz.prog 65 #[vptr q] w fun e w' => (∃ v, e = .returned v) ∧ ToS (fun t => t = .tok a) w g s w' { s with toks := FM.put s.toks a k.take } := by
  refine (ktake_any q k w (st.tok hb hq) (st.good.toks _ _ hb).2.2).mono ?_
  rintro e w' ⟨v, rfl, h1, h2⟩
  exact ⟨⟨_, rfl⟩, To.tok st hb hq (st.good.toks _ _ hb).2.2.take h1 h2⟩
theorem ktick_use (st : St w g s) {a : Int} {k : Bkt} (hb : FM.get s.toks a = some k) (hq : g.ad (.tok a) = q) : Calls Tryz.prog 40 #[vptr q] w fun e w' => e = .returned (.tuple #[]) ∧ ToS (fun t => t = .tok a) w g s w' { s with toks := FM.put s.toks a k.tick } := by
  refine (ktick_any q k w (st.tok hb hq) (st.good.toks _ _ hb).2.2).mono ?_
  rintro e w' ⟨rfl, h1, h2⟩
  exact ⟨rfl, To.tok st hb hq (st.good.toks _ _ hb).2.2.tick h1 h2⟩
theorem ktok_use (st : St w g s) {a : Int} {k : Bkt} (hb : FM.get s.toks a = some k) (hq : g.ad (.tok a) = q) : Calls Tryz.prog 63 #[vptr q] w (RetV (.int .i64 k.tok) w) := ktok_any q k w (st.tok hb hq)
theorem zero_bucket (w : World) : (zeroValue 119).run Tryz.prog w = .ok (.pointer none) w := by kernel_rfl
theorem St.tokLook (st : St w g s) {a : Int} (ha : W64 a) {tm : Nat} (htm : g.ad .toks = tm) :
    (Instr.lookup 47 (.map (some tm)) (.int .i64 a) false).run Tryz.prog w = .ok (((FM.get s.toks a).map fun _ => vptr (g.ad (.tok a))).getD (.pointer none)) w := by
  obtain ⟨ov, m⟩ := st.mem
  have := MapI.At.look (t := 47) m.toks.map (by kernel_rfl) Tryz.underlying47 (zero_bucket w) ha
  rw [htm, FM.get_vals] at this
  exact this
/-- A new account's tokens, named and laid into the map. -/
theorem To.newtok (st : St w g s) {a : Int} {k : Bkt} (ha : 0 ≤ a ∧ a < 16) (hk : k.Ok) (hn : FM.get s.toks a = none) (hq : g.ad .toks = q) {w1 : World} (hb1 : Below w.heap.size w w1) (hs1 : w1.heap.size = w.heap.size + 1) (hk1 : Blk w1 w.heap.size 161 k.cells) :
    ∃ w2, (Instr.mapUpdate 47 (.map (some q)) (.int .i64 a) (vptr w.heap.size)).run Tryz.prog w1 = .ok () w2 ∧
      To w g s w2 (g.set_ (.tok a) w.heap.size) { s with toks := FM.put s.toks a k } := by
  subst hq
  obtain ⟨ov, m⟩ := st.mem
  have wa : W64 a := MapI.w64 (by omega) (by omega)
  have hlen : s.toks.length ≤ 16 := FM.length_le m.toks.sorted (fun p hp => by have := st.good.toks p.1 p.2 (FM.get_of_mem m.toks.sorted hp); exact ⟨this.1, this.2.1⟩)
  have hmx : (FM.vals (fun a (_ : Bkt) => ptr (g.ad (.tok a))) s.toks).length < maxLen := by rw [FM.length_vals]; unfold maxLen; omega
  obtain ⟨w2, hrun, hm2, hg2, hs2⟩ := MapI.At.store (t := 47) (MapI.At.same m.toks.map (hb1.block _ m.toks.lv.lt)) (by kernel_rfl) Tryz.underlying47 hmx wa (vptr w.heap.size)
  refine ⟨w2, hrun, ?_⟩
  have st1 : Step (fun t => t = .toks ∨ t = .tok a) w g w2 g := (Step.of_below hb1 g _).trans (Step.of_grown hg2 (fun k e => by cases e; exact .inl m.toks.lv.own))
  have st2 := st1.name (.tok a) w.heap.size (Nat.le_refl _) (.inr rfl)
  have hne : ∀ t, t ≠ .tok a → (g.set_ (.tok a) w.heap.size).ad t = g.ad t := fun t ht => G.set_ad_ne _ _ _ _ ht
  have heq : (g.set_ (.tok a) w.heap.size).ad (.tok a) = w.heap.size := G.set_ad _ _ _
  have hcl := m.toks.lv.lt
  have nw : w2.heap[w.heap.size]? = w1.heap[w.heap.size]? := hg2.block _ (by omega) (fun e => by injection e with e; omega)
  have htoks : ToksAt w2 (g.set_ (.tok a) w.heap.size) (FM.put s.toks a k) := by
    refine ⟨⟨?_, ?_⟩, ?_, fun b x hx => ?_⟩
    · rw [hne _ (by simp)]
      show (if g.ad .toks = w.heap.size then _ else _) = _
      rw [if_neg (by omega)]
      exact m.toks.lv.own
    · rw [hne _ (by simp)]; omega
    · rw [hne .toks (by simp)]
      have hp := put_turn (f := fun a (_ : Bkt) => ptr (g.ad (.tok a))) (f' := fun b (_ : Bkt) => ptr ((g.set_ (.tok a) w.heap.size).ad (.tok b))) (l := s.toks) (k := a) (a := k) (fun x b hx => by rw [hne _ (by simp [hx])])
      rw [heq] at hp
      have hm3 := Mp.of hm2
      rw [show MapI.put (FM.vals (fun a (_ : Bkt) => ptr (g.ad (.tok a))) s.toks) a (vptr w.heap.size) = _ from hp] at hm3
      exact hm3
    · rw [FM.get_put] at hx
      by_cases e : b = a
      · subst e; rw [if_pos rfl] at hx; cases hx
        refine ⟨⟨?_, ?_⟩, ?_⟩
        · rw [heq, G.set_own]
        · rw [heq]; omega
        · rw [heq]; exact nw.trans hk1
      · rw [if_neg e] at hx
        exact (m.toks.each b x hx).step st2 (by simp [e])
  refine To.of (m.turn st2 { s with toks := FM.put s.toks a k } ov (fun t ht => hne t (by rintro rfl; exact ht)) (toks := .inr htoks)) (st.good.tok ha hk) st2 (by simp) (fun t ht => hne t (by rintro rfl; have h2 : (FM.get s.toks a).isSome = true := ht; rw [hn] at h2; cases h2)) (fun t ht => ?_)
  cases t <;> first | exact ht | exact kept_put ht
end
end Go.Proofs.YtjmdgicdpggljaaGreat.GH
