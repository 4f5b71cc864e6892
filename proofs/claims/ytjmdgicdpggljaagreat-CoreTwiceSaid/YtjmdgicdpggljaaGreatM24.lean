/- Proved: what core's gone leaves. -/
import Derived.Test.YtjmdgicdpggljaaGreatM23
set_option linter.all false
namespace Go.Proofs.YtjmdgicdpggljaaGreat.GH
open Go.RowKit Go.Proofs.YtjmdgicdpggljaaGreat.Histo Go.Proofs.YtjmdgicdpggljaaGreat.Event Go.Proofs.YtjmdgicdpggljaaGreat.Ring
set_option linter.unusedVariables false
open Go.Proofs.YtjmdgicdpggljaaGreat.MapG (Codec Mk)
open Go.Proofs.YtjmdgicdpggljaaGreat.MapI (AL At Rng W64)

/-- What is left when a sandbox is taken off the lists. -/
def Core.off (s : Core) (b : Box) : Core := { s with hosts := s.hosts.give b.host b.mem, boxes := FM.del s.boxes b.id, til := FM.del s.til b.id }
theorem del_put {α : Type} (l : FM α) (k : Int) (a : α) : FM.del (FM.put l k a) k = FM.del l k := by
  have aux : ∀ (l : FM α), (∀ p ∈ l, p.1 ≠ k) → FM.del (FM.ins (k, a) l) k = l := by
    intro l
    induction l with
    | nil => intro _; simp [FM.ins, FM.del]
    | cons x r ih =>
      intro hx
      unfold FM.ins
      split
      · unfold FM.del
        rw [List.filter_cons, if_neg (by simp)]
        exact List.filter_eq_self.2 fun p hp => by simpa using hx p hp
      · have := ih fun p hp => hx p (List.mem_cons_of_mem _ hp)
        unfold FM.del at this ⊢
        rw [List.filter_cons, if_pos (by simpa using hx x List.mem_cons_self), this]
  unfold FM.put
  exact aux _ fun p hp => (FM.mem_del.1 hp).2
/-- The end of gone, step by step. -/
structure Ends (w : World) (g : G) (s : Core) (p q bm tm hm : Nat) (b : Box) : Prop where
  now : w.cell? ⟨p, 0, none⟩ = some (.int .i64 s.now)
  next : ∀ n, Calls Tryz.prog 97 #[vptr q, .int .i64 s.now] (w.drewN n) fun e w4 => (∃ b, e = .returned b) ∧
    w4.cell? ⟨p, 5, none⟩ = some (vptr hm) ∧ w4.cell? ⟨q, 2, none⟩ = some (.int .i64 b.host) ∧ w4.cell? ⟨q, 3, none⟩ = some (.int .i64 b.mem) ∧
    ∀ n, Calls Tryz.prog 98 #[vptr hm, .int .i64 b.host, .int .i64 b.mem] (w4.drewN n) fun e w5 => (∃ b, e = .returned b) ∧
      w5.cell? ⟨p, 7, none⟩ = some (.map (some bm)) ∧ w5.cell? ⟨q, 0, none⟩ = some (.int .i64 b.id) ∧
      ∃ w6, (∀ ty, (Builtin.delete_ #[52, 3] ty #[.map (some bm), .int .i64 b.id]).run Tryz.prog w5.drew = .ok (.tuple #[]) w6) ∧
        w6.cell? ⟨p, 8, none⟩ = some (.map (some tm)) ∧ w6.cell? ⟨q, 0, none⟩ = some (.int .i64 b.id) ∧
        ∃ w7, (∀ ty, (Builtin.delete_ #[53, 3] ty #[.map (some tm), .int .i64 b.id]).run Tryz.prog w6.drew = .ok (.tuple #[]) w7) ∧ To w g s w7 g (s.off b) ∧ Blk w7 q 72 (b.dead s.now).cells
theorem ToS.use {T : Tag → Prop} {w w' : World} {g : G} {s s' : Core} (h : ToS T w g s w' s') : St w' g s' := h.all.st
theorem ends_any {w : World} {g : G} {s : Core} {p q bm tm hm : Nat} {b : Box} (st : St w g s) (hp : g.ad .core = p) (hb : FM.get s.boxes b.id = some b) (hq : g.ad (.box b.id) = q) (h1 : g.ad .boxes = bm) (h2 : g.ad .til = tm) (h3 : g.ad .hosts = hm) : Ends w g s p q bm tm hm b := by
  have hid := (w64_box st.good hb).1
  refine ⟨st.now hp, fun n => (bkill_use (st.drewN n) hb hq).mono ?_⟩
  rintro e w4 ⟨he, t4, k4⟩
  have c4 : ∀ i v, (b.dead s.now).cells[i]? = some v → w4.cell? ⟨q, i, none⟩ = some v := fun i v hv => (k4.cell i).trans hv
  have e2 : (b.dead s.now).cells[2]? = some (.int .i64 b.host) := by unfold Box.dead; split <;> rfl
  have e3 : (b.dead s.now).cells[3]? = some (.int .i64 b.mem) := by unfold Box.dead; split <;> rfl
  have e0 : (b.dead s.now).cells[0]? = some (.int .i64 b.id) := by unfold Box.dead; split <;> rfl
  refine ⟨he, t4.use.hosts hp h3, c4 2 _ e2, c4 3 _ e3, fun n5 => (hgive_use (t4.use.drewN n5) h3 b.host b.mem).mono ?_⟩
  rintro e w5 ⟨he5, t5⟩
  have hown : g.own q = .box b.id := by subst hq; obtain ⟨ov, m⟩ := st.mem; exact (m.boxes.each _ _ hb).lv.own
  have k5 : Blk w5 q 72 (b.dead s.now).cells := (t5.step.block q k4.lt (by rw [hown]; simp)).trans k4
  refine ⟨he5, t5.use.boxes hp h1, (k5.cell 0).trans e0, ?_⟩
  obtain ⟨w6, r6, t6, _⟩ := boxes_del t5.use.drew h1 hid 0
  have k6 : Blk w6 q 72 (b.dead s.now).cells := (t6.step.block q k5.lt (by rw [hown]; simp)).trans k5
  refine ⟨w6, fun ty => r6, t6.use.til hp h2, (k6.cell 0).trans e0, ?_⟩
  obtain ⟨w7, r7, t7, _⟩ := til_del t6.use.drew h2 hid 0
  refine ⟨w7, fun ty => r7, ?_, (t7.step.block q k6.lt (by rw [hown]; simp)).trans k6⟩
  have := (((To.refl st).drewN n).trans (t4.all.trans (((To.refl t4.use).drewN n5).trans (t5.all.trans ((To.refl t5.use).drew.trans (t6.all.trans ((To.refl t6.use).drew.trans t7.all)))))))
  have ee : ({ { { (s.setBox (b.dead s.now)) with hosts := s.hosts.give b.host b.mem } with boxes := FM.del (FM.put s.boxes (b.dead s.now).id (b.dead s.now)) b.id } with til := FM.del s.til b.id } : Core) = s.off b := by
    unfold Core.off Core.setBox
    rw [dead_id, del_put]
  rw [← ee]
  exact this
theorem zero_fnW (w : World) : (zeroValue 126).run Tryz.prog w = .ok (.pointer none) w := by kernel_rfl
theorem fns_look {w : World} {g : G} {s : Core} (st : St w g s) {f : Int} (hh : W64 f) {q : Nat} (hq : g.ad .fns = q) :
    (Instr.lookup 48 (.map (some q)) (.int .i64 f) false).run Tryz.prog w = .ok (((FM.get s.fns f).map (fun _ => vptr (g.ad (.fn f)))).getD (.pointer none)) w := by
  subst hq
  obtain ⟨ov, m⟩ := st.mem
  have := MapI.At.look m.fns.map (by kernel_rfl) Tryz.underlying48 (zero_fnW w) hh
  rw [this, FM.get_vals]
def Gone (b : Box) (q : Nat) (w : World) (g : G) (s s' : Core) (e : Ending) (w' : World) : Prop := e = .returned (.tuple #[]) ∧ ∃ g', To w g s w' g' s' ∧ Blk w' q 72 (b.dead s.now).cells
set_option maxRecDepth 100000 in
set_option maxHeartbeats 8000000 in
theorem gone_idle {w : World} {g : G} {s : Core} {p q : Nat} {b : Box} (st : St w g s) (hp : g.ad .core = p) (hb : FM.get s.boxes b.id = some b) (hq : g.ad (.box b.id) = q) (hr : b.runs = false) :
    Calls Tryz.prog 58 #[vptr p, vptr q] w (Gone b q w g s ((s.take b).off b)) := by
  have HT := Lib.hid (take_any st hp hb hq)
  have hkb := box_keep st.good hb
  have HR : Hid (∀ w1 g1, To w g s w1 g1 (s.take b) → Calls Tryz.prog 55 #[vptr q] w1 (RetV (.bool false) w1) ∧ ∀ n, Ends (w1.drewN n) g1 (s.take b) p q (g1.ad .boxes) (g1.ad .til) (g1.ad .hosts) b) := Lib.hid fun w1 g1 h1 => by
    have e1 := (h1.head (t := .core) trivial).trans hp
    have e2 := (h1.ad _ hkb).trans hq
    have r := runs_use h1.st (id := b.id) (b := b) hb e2
    rw [hr] at r
    exact ⟨r, fun n => ends_any (h1.st.drewN n) e1 hb e2 rfl rfl rfl⟩
  have HE : Hid (∀ w1 g1 n w2, To w g s w1 g1 (s.take b) → To (w1.drewN n) g1 (s.take b) w2 g1 ((s.take b).off b) → To w g s w2 g1 ((s.take b).off b)) := Lib.hid fun w1 g1 n w2 h1 h2 => (h1.drewN n).trans h2
  have hn : (s.take b).now = s.now := rfl
  obtain ⟨S1, hS1⟩ : ∃ S1, S1 = s.take b := ⟨_, rfl⟩
  rw [← hS1] at HT HR HE hn ⊢
  have HN := Lib.hid hn
  clear hS1 st hp hb hq hr hkb hn
  go_enter Tryz.func58, Tryz.ntmps58
  go_upto_region 4 with (first
    | (go_at_call 91; refine HT.out.mono ?_; rintro e w1 ⟨rfl, g1, h1⟩; have H1 := Lib.hid h1; obtain ⟨hrun, hends⟩ := HR.out w1 g1 h1; have HE1 := Lib.hid hends; have HRUN := Lib.hid hrun; clear h1 hrun hends)
    | (go_at_call 55; refine HRUN.out.mono ?_; rintro e w2 ⟨rfl, n2, rfl⟩))
  obtain ⟨c0, hk⟩ := HE1.out n2
  have HK := Lib.hid hk
  clear hk
  go_upto_region 5 with (go_at_call 97; refine (HK.out 0).mono ?_; rintro e w4 ⟨⟨v4, rfl⟩, c5, c2, c3, hk5⟩; have HK5 := Lib.hid hk5; clear hk5)
  go_still_tail 12, (by kernel_rfl)
  change wpList _ _ _ _ _ w4.drew
  go_upto_region 6 with (go_at_call 98; refine (HK5.out 1).mono ?_; rintro e w5 ⟨⟨v5, rfl⟩, c7, d0, hk6⟩; have HK6 := Lib.hid hk6; clear hk6)
  obtain ⟨w6, r6, c8, x0, hk7⟩ := HK6.out
  obtain ⟨w7, r7, h7, k7⟩ := hk7
  have H7 := Lib.hid (And.intro h7 k7)
  clear h7 k7
  go_still_tail 8, (by kernel_rfl)
  change wpList _ _ _ _ _ w5.drew
  go_upto_region 7 with (fail)
  go_still_tail 8, (by kernel_rfl)
  change wpList _ _ _ _ _ w6.drew
  go_wp2
  go_end0
  exact ⟨rfl, g1, HE.out w1 g1 n2 w7 H1.out H7.out.1, by have := H7.out.2; rw [HN.out] at this; exact this⟩
theorem Fn.Good.lastAt {x : Fn} (h : x.Good) {t : Int} (h0 : 0 ≤ t) (h1 : t ≤ 1099511627776) : Fn.Good { x with last := t } := ⟨h.acc, h.mem, h.cost, h.keep, h.often, ⟨by show -1 ≤ t; omega, h1⟩, h.til, h.hist⟩
set_option maxRecDepth 100000 in
set_option maxHeartbeats 8000000 in
theorem gone_runs {w : World} {g : G} {s : Core} {p q : Nat} {b : Box} {x : Fn} (st : St w g s) (hp : g.ad .core = p) (hb : FM.get s.boxes b.id = some b) (hq : g.ad (.box b.id) = q) (hr : b.runs = true) (hx : FM.get s.fns b.fn = some x) :
    Calls Tryz.prog 58 #[vptr p, vptr q] w (Gone b q w g s (({ s.take b with quota := s.quota.fin b.fn, fns := FM.put s.fns b.fn { x with last := s.now } } : Core).off b)) := by
  have HT := Lib.hid (take_any st hp hb hq)
  have hkb := box_keep st.good hb
  have hfk : Kept s (.fn b.fn) := by show (FM.get s.fns b.fn).isSome = true; rw [hx]; rfl
  have wf := (w64_box st.good hb).2.2
  obtain ⟨S1, hS1⟩ : ∃ S1, S1 = s.take b := ⟨_, rfl⟩
  have n1 : S1.now = s.now := by rw [hS1]; rfl
  have b1 : FM.get S1.boxes b.id = some b := by rw [hS1]; exact hb
  have x1 : FM.get S1.fns b.fn = some x := by rw [hS1]; exact hx
  obtain ⟨S2, hS2⟩ : ∃ S2 : Core, S2 = { S1 with quota := s.quota.fin b.fn } := ⟨_, rfl⟩
  obtain ⟨S3, hS3⟩ : ∃ S3 : Core, S3 = { S2 with fns := FM.put s.fns b.fn { x with last := s.now } } := ⟨_, rfl⟩
  have e3 : ({ s.take b with quota := s.quota.fin b.fn, fns := FM.put s.fns b.fn { x with last := s.now } } : Core) = S3 := by rw [hS3, hS2, hS1]
  have q1 : S1.quota = s.quota := by rw [hS1]; rfl
  have HR : Hid (∀ w1 g1, To w g s w1 g1 S1 → Calls Tryz.prog 55 #[vptr q] w1 (RetV (.bool true) w1) ∧ ∀ n, (w1.drewN n).cell? ⟨p, 2, none⟩ = some (vptr (g1.ad .quota)) ∧ (w1.drewN n).cell? ⟨q, 1, none⟩ = some (.int .i64 b.fn) ∧
      ∀ m, Calls Tryz.prog 72 #[vptr (g1.ad .quota), .int .i64 b.fn] ((w1.drewN n).drewN m) fun e w2 => (∃ b, e = .returned b) ∧ To w g s w2 g1 S2) := Lib.hid fun w1 g1 h1 => by
    have e1 := (h1.head (t := .core) trivial).trans hp
    have e2 := (h1.ad _ hkb).trans hq
    have r := runs_use h1.st (id := b.id) (b := b) b1 e2
    rw [hr] at r
    refine ⟨r, fun n => ⟨h1.st.quota e1 rfl, (h1.st.box (id := b.id) b1 e2).cell 1, fun m => (qend_use ((h1.st.drewN n).drewN m) rfl b.fn).mono ?_⟩⟩
    rintro e w2 ⟨he, h2⟩
    rw [q1] at h2
    rw [hS2]
    exact ⟨he, ((h1.drewN n).drewN m).trans h2.all⟩
  have HM : Hid (∀ w2 g1, To w g s w2 g1 S2 → w2.cell? ⟨p, 4, none⟩ = some (.map (some (g1.ad .fns))) ∧ w2.cell? ⟨q, 1, none⟩ = some (.int .i64 b.fn) ∧ w2.cell? ⟨p, 0, none⟩ = some (.int .i64 s.now) ∧
      (Instr.lookup 48 (.map (some (g1.ad .fns))) (.int .i64 b.fn) false).run Tryz.prog w2.drew = .ok (vptr (g.ad (.fn b.fn))) w2.drew ∧ w2.cell? ⟨g.ad (.fn b.fn), 5, none⟩ = some (.int .i64 x.last) ∧ w2.frozen? ⟨g.ad (.fn b.fn), 5, none⟩ = false ∧
      To w g s (w2.setCell ⟨g.ad (.fn b.fn), 5, none⟩ (.int .i64 s.now)).drew g1 S3 ∧ ∀ n, Ends ((w2.setCell ⟨g.ad (.fn b.fn), 5, none⟩ (.int .i64 s.now)).drew.drewN n) g1 S3 p q (g1.ad .boxes) (g1.ad .til) (g1.ad .hosts) b) := Lib.hid fun w2 g1 h2 => by
    have e1 := (h2.head (t := .core) trivial).trans hp
    have e2 := (h2.ad _ hkb).trans hq
    have e3 := h2.ad _ hfk
    have b2 : FM.get S2.boxes b.id = some b := by rw [hS2]; exact b1
    have x2 : FM.get S2.fns b.fn = some x := by rw [hS2]; exact x1
    have hl := fns_look h2.st.drew wf (q := g1.ad .fns) rfl
    rw [x2] at hl
    simp only [Option.map_some, Option.getD_some, e3] at hl
    have hf := (h2.st.fnBlk x2 e3)
    have hset := To.fnField (s := S2) h2.st x2 e3 5 (.int .i64 s.now) (x' := { x with last := s.now }) (fun _ _ => rfl) rfl rfl (((st.good.fns _ _ hx).2.2).lastAt st.good.now.1 st.good.now.2)
    have f2 : S2.fns = s.fns := by rw [hS2, hS1]; rfl
    rw [f2, ← hS3] at hset
    have ht := (h2.trans hset.all).drew
    have n2 : S2.now = s.now := by rw [hS2]; exact n1
    refine ⟨h2.st.fns e1 rfl, (h2.st.box (id := b.id) b2 e2).cell 1, by have := h2.st.now e1; rw [n2] at this; exact this, hl, hf.cell 5, hf.frozen 5, ht, fun n => ends_any (ht.st.drewN n) e1 (by rw [hS3]; exact b2) e2 rfl rfl rfl⟩
  have hn : S3.now = s.now := by rw [hS3, hS2]; exact n1
  rw [← hS1] at HT
  rw [e3]
  have HN := Lib.hid hn
  clear hS1 hS2 hS3 st hp hb hq hr hkb hn hx hfk wf n1 b1 x1 e3 q1
  generalize g.ad (.fn b.fn) = fq at HM
  obtain ⟨now, hnow⟩ : ∃ n, n = s.now := ⟨_, rfl⟩
  rw [← hnow] at HM HN
  have HNOW := Lib.hid hnow
  clear hnow
  go_enter Tryz.func58, Tryz.ntmps58
  go_upto_region 2 with (first
    | (go_at_call 91; refine HT.out.mono ?_; rintro e w1 ⟨rfl, g1, h1⟩; obtain ⟨hrun, hmid⟩ := HR.out w1 g1 h1; have HE1 := Lib.hid hmid; have HRUN := Lib.hid hrun; clear h1 hrun hmid)
    | (go_at_call 55; refine HRUN.out.mono ?_; rintro e w2 ⟨rfl, n2, rfl⟩))
  obtain ⟨c2, d1, hk⟩ := HE1.out n2
  have HK := Lib.hid hk
  clear hk
  generalize w1.drewN n2 = W2 at c2 d1 HK ⊢
  go_still_tail 8, (by kernel_rfl)
  change wpList _ _ _ _ _ W2.drew
  go_upto_region 3 with (go_at_call 72; refine (HK.out 1).mono ?_; rintro e w2 ⟨⟨v2, rfl⟩, h2⟩; have H2 := Lib.hid h2; clear h2)
  obtain ⟨a4, a1, a0, al, a5, f5, ht, hends⟩ := HM.out w2 g1 H2.out
  have HT3 := Lib.hid ht
  have HE3 := Lib.hid hends
  clear ht hends
  go_region
  generalize (w2.setCell ⟨fq, 5, none⟩ (.int .i64 now)).drew = W3 at HT3 HE3 ⊢
  obtain ⟨c0, hk⟩ := HE3.out 0
  have HK3 := Lib.hid hk
  have HN3 := Lib.hid (show W3.drewN 0 = W3 from rfl)
  clear hk al a5 f5 a4 a1 a0
  rw [World.drewN_zero] at c0
  go_upto_region 5 with (go_at_call 97; refine (HK3.out 0).mono ?_; rintro e w4 ⟨⟨v4, rfl⟩, c5, c2, c3, hk5⟩; have HK5 := Lib.hid hk5; clear hk5)
  go_still_tail 12, (by kernel_rfl)
  change wpList _ _ _ _ _ w4.drew
  go_upto_region 6 with (go_at_call 98; refine (HK5.out 1).mono ?_; rintro e w5 ⟨⟨v5, rfl⟩, c7, d0, hk6⟩; have HK6 := Lib.hid hk6; clear hk6)
  obtain ⟨w6, r6, c8, x0, hk7⟩ := HK6.out
  obtain ⟨w7, r7, h7, k7⟩ := hk7
  have H7 := Lib.hid (And.intro h7 k7)
  clear h7 k7
  go_still_tail 8, (by kernel_rfl)
  change wpList _ _ _ _ _ w5.drew
  go_upto_region 7 with (fail)
  go_still_tail 8, (by kernel_rfl)
  change wpList _ _ _ _ _ w6.drew
  go_wp2
  go_end0
  exact ⟨rfl, g1, HT3.out.trans H7.out.1, by have := H7.out.2; rw [HN.out, HNOW.out] at this; exact this⟩
theorem gone_any {w : World} {g : G} {s s' : Core} {p q : Nat} {b : Box} (st : St w g s) (hp : g.ad .core = p) (hb : FM.get s.boxes b.id = some b) (hq : g.ad (.box b.id) = q) (hs : s.gone b = some s') :
    Calls Tryz.prog 58 #[vptr p, vptr q] w (Gone b q w g s s') := by
  unfold Core.gone at hs
  simp only at hs
  cases hr : b.runs
  · rw [if_neg (by rw [hr]; simp)] at hs
    cases hs
    exact gone_idle st hp hb hq hr
  · rw [if_pos hr] at hs
    cases hx : FM.get (s.take b).fns b.fn with
    | none => rw [hx] at hs; cases hs
    | some x =>
      rw [hx] at hs
      cases hs
      exact gone_runs st hp hb hq hr hx
end Go.Proofs.YtjmdgicdpggljaaGreat.GH
