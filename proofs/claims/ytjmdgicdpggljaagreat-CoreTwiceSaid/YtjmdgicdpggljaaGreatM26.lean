/- Proved: what core's window answers. -/
import Derived.Test.YtjmdgicdpggljaaGreatM24
import Derived.Test.YtjmdgicdpggljaaGreatM25
set_option linter.all false
namespace Go.Proofs.YtjmdgicdpggljaaGreat.GH
open Go.RowKit Go.Proofs.YtjmdgicdpggljaaGreat.Histo Go.Proofs.YtjmdgicdpggljaaGreat.Event Go.Proofs.YtjmdgicdpggljaaGreat.Ring
set_option linter.unusedVariables false
open Go.Proofs.YtjmdgicdpggljaaGreat.Policy (Win win RetW RS)
open Go.Proofs.YtjmdgicdpggljaaGreat.MapG (Codec Mk)
open Go.Proofs.YtjmdgicdpggljaaGreat.MapI (AL At Rng W64)

set_option maxRecDepth 100000 in
set_option maxHeartbeats 8000000 in
theorem window_any {w : World} {g : G} {s : Core} {p : Nat} {f : Int} {x : Fn} (st : St w g s) (hp : g.ad .core = p) (hx : FM.get s.fns f = some x) :
    Calls Tryz.prog 68 #[vptr p, .int .i64 f] w (RetW (win x.hist x.ring) w) := by
  have hfk := st.good.fns _ _ hx
  have wf : W64 f := w64_fn ⟨hfk.1, hfk.2.1⟩
  obtain ⟨fm, hfm⟩ : ∃ q, g.ad .fns = q := ⟨_, rfl⟩
  obtain ⟨fq, hfq⟩ : ∃ q, g.ad (.fn f) = q := ⟨_, rfl⟩
  obtain ⟨hq, hhq⟩ : ∃ q, g.ad (.hist f) = q := ⟨_, rfl⟩
  obtain ⟨rq, hrq⟩ : ∃ q, g.ad (.ring f) = q := ⟨_, rfl⟩
  have HF : Hid (∀ W, Below w.heap.size w W → W.cell? ⟨p, 4, none⟩ = some (.map (some fm)) ∧ (Instr.lookup 48 (.map (some fm)) (.int .i64 f) false).run Tryz.prog W = .ok (vptr fq) W ∧
      W.cell? ⟨fq, 7, none⟩ = some (vptr hq) ∧ W.cell? ⟨fq, 8, none⟩ = some (vptr rq) ∧ Calls Tryz.prog 113 #[vptr hq, vptr rq] W (RetW (win x.hist x.ring) W)) := Lib.hid fun W hb => by
    have s1 := st.below hb
    have hl := fns_look s1 wf hfm
    rw [hx] at hl
    simp only [Option.map_some, Option.getD_some, hfq] at hl
    have hf := s1.fnBlk hx hfq
    rw [hhq, hrq] at hf
    exact ⟨s1.fns hp hfm, hl, hf.cell 7, hf.cell 8, win_fn s1 hx hhq hrq⟩
  obtain ⟨W0, hW0⟩ : ∃ W0, W0 = win x.hist x.ring := ⟨_, rfl⟩
  rw [← hW0] at HF ⊢
  obtain ⟨u, v, z⟩ := W0
  clear st hp hx hfk wf hfm hfq hhq hrq hW0
  go_enter Tryz.func68, Tryz.ntmps68
  go_upto_region 1 with (fail)
  have hs := RS.start w
  generalize w.alloc (.cells #[.int .i64 0, .int .i64 0, .int .i64 0] 151) = w1 at hs ⊢
  obtain ⟨c4, hl, c7, c8, hcall⟩ := HF.out w1 hs.below
  obtain ⟨_, hl', _, _, hcall'⟩ := HF.out w1.drew hs.below.drew
  have hl1 : ∀ n, (Instr.lookup 48 (.map (some fm)) (.int .i64 f) false).run Tryz.prog (w1.drewN n) = .ok (vptr fq) (w1.drewN n) := fun n => (HF.out (w1.drewN n) (below_drewN hs.below n)).2.1
  generalize w.heap.size = r at hs ⊢
  have HS := Lib.hid hs
  have HC := Lib.hid hcall'
  clear hs hcall hcall'
  go_still_tail 18, (by kernel_rfl)
  change wpList _ _ _ _ _ w1.drew
  go_wp2_with (go_at_call 113; refine HC.out.mono ?_; rintro e w2 ⟨rfl, hb2⟩; have hs2 := (HS.out.drewN 1).next hb2; obtain ⟨d0, d1, d2, g0, g1, g2⟩ := hs2.facts; have HS2 := Lib.hid hs2; clear hs2 hb2; unfold Win.val)
  have hb3 := ((HS2.out.b.set_ 0 (.int .i64 u)).set_ 1 (.int .i64 v)).set_ 2 (.int .i64 z)
  have k0 := hb3.cell 0
  have k1 := hb3.cell 1
  have k2 := hb3.cell 2
  simp at k0 k1 k2
  exact bodyPost_ret (v := .agg #[.int .i64 u, .int .i64 v, .int .i64 z]) (by simp [results, Tryz.results68, go_sem, k0, k1, k2]) rfl (Policy.RetW.mk rfl (HS2.out.three _ _ _))
end Go.Proofs.YtjmdgicdpggljaaGreat.GH

/- Proved: what core's idle leaves. -/
namespace Go.Proofs.YtjmdgicdpggljaaGreat.GH
open Go.RowKit Go.Proofs.YtjmdgicdpggljaaGreat.Histo Go.Proofs.YtjmdgicdpggljaaGreat.Event Go.Proofs.YtjmdgicdpggljaaGreat.Ring
set_option linter.unusedVariables false
open Go.Proofs.YtjmdgicdpggljaaGreat.MapG (Codec Mk)
open Go.Proofs.YtjmdgicdpggljaaGreat.MapI (AL At Rng W64)

theorem gone_parts {s t : Core} {b : Box} (h : s.gone b = some t) : t.out = s.out ∧ t.next = s.next ∧ t.boxes = FM.del s.boxes b.id ∧ t.now = s.now := by
  unfold Core.gone at h
  simp only at h
  split at h
  · split at h
    · cases h
    · cases h; exact ⟨rfl, rfl, rfl, rfl⟩
  · cases h; exact ⟨rfl, rfl, rfl, rfl⟩
theorem kill_use {w : World} {g : G} {s s' : Core} {p q : Nat} {b : Box} (st : St w g s) (hp : g.ad .core = p) (hb : FM.get s.boxes b.id = some b) (hq : g.ad (.box b.id) = q) (hs : s.kill b = some s') :
    Calls Tryz.prog 42 #[vptr p, vptr q] w (Post (.tuple #[]) w g s s') := by
  unfold Core.kill at hs
  cases hg : s.gone b with
  | none => rw [hg] at hs; cases hs
  | some t =>
    rw [hg] at hs
    cases hs
    obtain ⟨h1, h2, h3, _⟩ := gone_parts hg
    refine kill_any st hp hb hq hg ?_
    rw [h1, h2, h3]
    have := FM.length_del_there st.sorted.2.2.2.1 hb
    have := st.good.outs
    omega
theorem cset_use {w : World} {g : G} {s : Core} {h id : Int} {c : Cache} {q : Nat} {often cost mem : Nat} (st : St w g s) (hc : FM.get s.caches h = some (some c)) (hq : g.ad (.cache h) = q) (hid : W64 id) (hoc : often * cost < M64) (hm : mem < M64) (hlt : c.items.length < 1099511627776) :
    Calls Tryz.prog 114 #[vptr q, .int .i64 id, .int .u64 (often : Int), .int .u64 (cost : Int), .int .u64 (mem : Int)] w fun e w' => (∃ b, e = .returned b) ∧ ∃ g', To w g s w' g' (s.setCache h (c.set_ id often cost mem)) := by
  subst hq
  obtain ⟨ov, m⟩ := st.mem
  obtain ⟨v, hat, hv⟩ := (m.caches.each h c hc).at_
  refine (cset_any _ _ _ v c id often cost mem w hat hid hoc hm hlt).mono ?_
  rintro e w' ⟨he, ht⟩
  obtain ⟨g', h1, _⟩ := To.cache st hc hv ht
  exact ⟨by obtain ⟨b, rfl⟩ := he; exact ⟨_, rfl⟩, g', h1⟩
theorem tset_use {w : World} {g : G} {s : Core} {k : TKey} {x : Int} {q : Nat} (st : St w g s) (hq : g.ad .timers = q) (hk : KeyOkT k) (hlt : s.timers.length < 1099511627776) :
    Calls Tryz.prog 74 #[vptr q, kvalT k, .int .i64 x] w fun e w' => e = .returned (.tuple #[]) ∧ ∃ g', To w g s w' g' { s with timers := s.timers.set_ k x } := by
  subst hq
  obtain ⟨ov, m⟩ := st.mem
  obtain ⟨v, hat, hv⟩ := m.timers.at_
  refine (tset_any _ _ _ v s.timers k x w hat hk hlt).mono ?_
  rintro e w' ⟨he, ht⟩
  exact ⟨he, To.timers st hv ht⟩
theorem put_put {α : Type} (l : FM α) (k : Int) (a b : α) : FM.put (FM.put l k a) k b = FM.put l k b := by
  show FM.ins (k, b) (FM.del (FM.put l k a) k) = FM.ins (k, b) (FM.del l k)
  rw [del_put]
theorem setCache_two (s : Core) (h : Int) (c d : Cache) : (s.setCache h c).setCache h d = s.setCache h d := by
  unfold Core.setCache
  simp only [put_put]
set_option maxRecDepth 100000 in
set_option maxHeartbeats 8000000 in
theorem idle_any' {w : World} {g : G} {s s' : Core} {p q : Nat} {b : Box} {fin : Int} (st : St w g s) (hp : g.ad .core = p) (hb : FM.get s.boxes b.id = some b) (hq : g.ad (.box b.id) = q) (hs : s.idle b fin = some s') :
    Calls Tryz.prog 70 #[vptr p, vptr q, .int .i64 fin] w (Post (.tuple #[]) w g s s') := by
  have c0 := st.now hp
  obtain ⟨now, hnow⟩ : ∃ n, n = s.now := ⟨_, rfl⟩
  rw [← hnow] at c0
  unfold Core.idle at hs
  by_cases hle : fin ≤ s.now
  · rw [if_pos hle] at hs
    have HK := Lib.hid (kill_use st hp hb hq hs)
    have e1 : decide (fin ≤ now) = true := by rw [hnow]; simpa using hle
    clear st hp hb hq hs hle hnow
    go_enter Tryz.func70, Tryz.ntmps70
    go_wp2_with (go_at_call 42; refine HK.out.mono ?_; rintro e w1 ⟨rfl, g1, h1⟩; have H1 := Lib.hid h1; clear h1)
    go_end0
    exact ⟨rfl, g1, H1.out⟩
  · rw [if_neg hle] at hs
    have e1 : decide (fin ≤ now) = false := by rw [hnow]; simpa using hle
    cases hx : FM.get s.fns b.fn with
    | none => rw [hx] at hs; cases hs
    | some x =>
      rw [hx] at hs
      simp only at hs
      split at hs
      · next hlt =>
        cases hs
        obtain ⟨hl1, hl2⟩ := hlt
        have gd := st.good
        have hbg := (gd.boxes _ _ hb).2.2.2
        have hkb := box_keep gd hb
        obtain ⟨f0, f1, gx⟩ := gd.fns _ _ hx
        have hfk : Kept s (.fn b.fn) := by show (FM.get s.fns b.fn).isSome = true; rw [hx]; rfl
        have hid := (w64_box gd hb).1
        have wf := (w64_box gd hb).2.2
        obtain ⟨no, hno⟩ : ∃ n : Nat, x.often = n := ⟨x.often.toNat, by have := gx.often; omega⟩
        obtain ⟨nc, hnc⟩ : ∃ n : Nat, x.cost = n := ⟨x.cost.toNat, by have := gx.cost; omega⟩
        obtain ⟨nm, hnm⟩ : ∃ n : Nat, x.mem = n := ⟨x.mem.toNat, by have := gx.mem; omega⟩
        have bo : no ≤ 1000 := by have := gx.often; omega
        have bc : nc ≤ 1000 := by have := gx.cost; omega
        have bm : nm ≤ 4096 := by have := gx.mem; omega
        have hoc : no * nc < M64 := by
          have := Nat.mul_le_mul bo bc
          unfold M64; omega
        have w1 : IntKind.u64.wrap (no : Int) = (no : Int) := Int.emod_eq_of_lt (by omega) (by show (no : Int) < 18446744073709551616; omega)
        have w2 : IntKind.u64.wrap (nc : Int) = (nc : Int) := Int.emod_eq_of_lt (by omega) (by show (nc : Int) < 18446744073709551616; omega)
        have w3 : IntKind.u64.wrap (nm : Int) = (nm : Int) := Int.emod_eq_of_lt (by omega) (by show (nm : Int) < 18446744073709551616; omega)
        have et : x.often.toNat = no ∧ x.cost.toNat = nc ∧ x.mem.toNat = nm := by rw [hno, hnc, hnm]; exact ⟨rfl, rfl, rfl⟩
        rw [et.1, et.2.1, et.2.2]
        obtain ⟨tm, htm⟩ : ∃ t, t = g.ad .timers := ⟨_, rfl⟩
        obtain ⟨fm, hfm⟩ : ∃ t, g.ad .fns = t := ⟨_, rfl⟩
        obtain ⟨fq, hfq⟩ : ∃ t, g.ad (.fn b.fn) = t := ⟨_, rfl⟩
        have b0 : w.cell? ⟨q, 0, none⟩ = some (.int .i64 b.id) := (st.box hb hq).cell 0
        have b1 : w.cell? ⟨q, 1, none⟩ = some (.int .i64 b.fn) := (st.box hb hq).cell 1
        have b2 : w.cell? ⟨q, 2, none⟩ = some (.int .i64 b.host) := (st.box hb hq).cell 2
        have c4 := st.fns hp hfm
        have hlk : ∀ n, (Instr.lookup 48 (.map (some fm)) (.int .i64 b.fn) false).run Tryz.prog (w.drewN n) = .ok (vptr fq) (w.drewN n) := fun n => by
          have := fns_look (st.drewN n) wf hfm
          rw [hx] at this
          simp only [Option.map_some, Option.getD_some, hfq] at this
          exact this
        have k4 : w.cell? ⟨fq, 4, none⟩ = some (.int .i64 no) := by rw [← hno]; exact (st.fnBlk hx hfq).cell 4
        have k2 : w.cell? ⟨fq, 2, none⟩ = some (.int .i64 nc) := by rw [← hnc]; exact (st.fnBlk hx hfq).cell 2
        have k1 : w.cell? ⟨fq, 1, none⟩ = some (.int .i64 nm) := by rw [← hnm]; exact (st.fnBlk hx hfq).cell 1
        have HC : Hid (∀ n, Calls Tryz.prog 109 #[vptr p, .int .i64 b.host] (w.drewN n) (CacheOut b.host (w.drewN n) g s)) := Lib.hid fun n => ccache_any (st.drewN n) hp hbg.host
        obtain ⟨S1, hS1⟩ : ∃ S, S = s.setCache b.host ((s.cache b.host).set_ b.id no nc nm) := ⟨_, rfl⟩
        have CE : ∀ w0 w1 g1 s1, To w0 g s w1 g1 s1 → s1.boxes = s.boxes → s1.fns = s.fns → w1.cell? ⟨q, 0, none⟩ = some (.int .i64 b.id) ∧ w1.cell? ⟨q, 2, none⟩ = some (.int .i64 b.host) ∧ w1.cell? ⟨fq, 4, none⟩ = some (.int .i64 no) ∧ w1.cell? ⟨fq, 2, none⟩ = some (.int .i64 nc) ∧ w1.cell? ⟨fq, 1, none⟩ = some (.int .i64 nm) := fun w0 w1 g1 s1 h1 hbx hfn => by
          have e3 := (h1.ad _ hfk).trans hfq
          have fb := h1.st.fnBlk (by rw [hfn]; exact hx) e3
          have bb := h1.st.box (id := b.id) (b := b) (by rw [hbx]; exact hb) ((h1.ad _ hkb).trans hq)
          exact ⟨bb.cell 0, bb.cell 2, by rw [← hno]; exact fb.cell 4, by rw [← hnc]; exact fb.cell 2, by rw [← hnm]; exact fb.cell 1⟩
        have HF : Hid (∀ n w1 g1, To (w.drewN n) g s w1 g1 (s.setCache b.host (s.cache b.host)) → (∀ t, ¬ CacheTags b.host t → g1.ad t = g.ad t) →
            (w1.cell? ⟨q, 0, none⟩ = some (.int .i64 b.id) ∧ w1.cell? ⟨q, 2, none⟩ = some (.int .i64 b.host) ∧ w1.cell? ⟨fq, 4, none⟩ = some (.int .i64 no) ∧ w1.cell? ⟨fq, 2, none⟩ = some (.int .i64 nc) ∧ w1.cell? ⟨fq, 1, none⟩ = some (.int .i64 nm)) ∧
            Calls Tryz.prog 114 #[vptr (g1.ad (.cache b.host)), .int .i64 b.id, .int .u64 (no : Int), .int .u64 (nc : Int), .int .u64 (nm : Int)] w1 fun e w' => (∃ b, e = .returned b) ∧ ∃ g', To w g s w' g' S1 ∧ (w'.cell? ⟨q, 0, none⟩ = some (.int .i64 b.id) ∧ w'.cell? ⟨q, 2, none⟩ = some (.int .i64 b.host) ∧ w'.cell? ⟨fq, 4, none⟩ = some (.int .i64 no) ∧ w'.cell? ⟨fq, 2, none⟩ = some (.int .i64 nc) ∧ w'.cell? ⟨fq, 1, none⟩ = some (.int .i64 nm))) := Lib.hid fun n w1 g1 h1 hne => by
          refine ⟨CE _ _ _ _ h1 rfl rfl, ?_⟩
          have hc1 : FM.get (s.setCache b.host (s.cache b.host)).caches b.host = some (some (s.cache b.host)) := by show FM.get (FM.put s.caches b.host _) b.host = _; rw [FM.get_put, if_pos rfl]
          refine (cset_use h1.st hc1 rfl hid hoc (by unfold M64; omega) hl1).mono ?_
          rintro e w' ⟨he, g', h2⟩
          rw [setCache_two, ← hS1] at h2
          have h3 := ((To.refl st).drewN n).trans (h1.trans h2)
          exact ⟨he, g', h3, CE _ _ _ _ h3 (by rw [hS1]; rfl) (by rw [hS1]; rfl)⟩
        have HE : Hid (∀ w1 g1, To w g s w1 g1 S1 →
            w1.cell? ⟨p, 9, none⟩ = some (vptr tm) ∧ ∀ m, Calls Tryz.prog 74 #[vptr tm, kvalT ⟨0, b.id⟩, .int .i64 fin] (w1.drewN m) fun e w' => e = .returned (.tuple #[]) ∧ ∃ g', To w g s w' g' { S1 with timers := s.timers.set_ ⟨0, b.id⟩ fin }) := Lib.hid fun w1 g1 h1 => by
          have e1 := h1.head (t := .core) trivial
          have e2 := h1.head (t := .timers) trivial
          have t1 : S1.timers = s.timers := by rw [hS1]; rfl
          refine ⟨h1.st.timers (e1.trans hp) (e2.trans htm.symm), fun m => ?_⟩
          refine (tset_use (h1.st.drewN m) (e2.trans htm.symm) ⟨MapI.w64 (by show (-9223372036854775808 : Int) ≤ 0; decide) (by show (0 : Int) ≤ 9223372036854775807; decide), hid⟩ (by rw [t1]; exact hl2)).mono ?_
          rintro e w' ⟨he, g', h2⟩
          rw [t1] at h2
          exact ⟨he, g', (h1.drewN m).trans h2⟩
        clear CE
        rw [← hS1]
        obtain ⟨H, hH⟩ : ∃ h, h = b.host := ⟨_, rfl⟩
        obtain ⟨I, hI⟩ : ∃ i, i = b.id := ⟨_, rfl⟩
        obtain ⟨Fi, hFi⟩ : ∃ i, i = b.fn := ⟨_, rfl⟩
        obtain ⟨tms, htms⟩ : ∃ t, t = s.timers := ⟨_, rfl⟩
        rw [← hH] at b2 HC HF
        rw [← hI] at b0 HF HE ⊢
        rw [← hFi] at b1 hlk
        rw [← htms] at HE ⊢
        have n0 : (0 : Int) ≤ no := by omega
        have n1 : (0 : Int) ≤ nc := by omega
        have n2 : (0 : Int) ≤ nm := by omega
        clear hb hp hq htm hid hkb hbg gd st hH hI hFi htms hS1 hno hnc hnm et hl1 hl2 hx gx f0 f1 hfk wf hoc hle hnow hfm hfq
        go_enter Tryz.func70, Tryz.ntmps70
        go_upto_region 2 with (fail)
        go_quiet (fail)
        go_upto_region 3 with (fail)
        go_region_held3 (fun w' => w'.cell? ⟨q, 0, none⟩ = some (.int .i64 I) ∧ w'.cell? ⟨q, 2, none⟩ = some (.int .i64 H) ∧ w'.cell? ⟨fq, 4, none⟩ = some (.int .i64 no) ∧ w'.cell? ⟨fq, 2, none⟩ = some (.int .i64 nc) ∧ w'.cell? ⟨fq, 1, none⟩ = some (.int .i64 nm))
          (first | assumption | go_keep)
          (first
            | (go_at_call 109; refine (HC.out _).mono ?_; rintro e w1 ⟨g1, rfl, h1, hne⟩; obtain ⟨hs1, hd⟩ := HF.out _ w1 g1 h1 hne; have HD := Lib.hid hd; clear h1 hne hd)
            | (go_at_call 114; refine HD.out.mono ?_; rintro e w2 ⟨⟨v, rfl⟩, g2, h2, hs2⟩; have H2 := Lib.hid h2; clear h2))
        all_goals
          have d0 := hs2.1
          clear hs2
          obtain ⟨d9, hT⟩ := HE.out _ g2 H2.out
          have HT := Lib.hid hT
          clear hT
          go_wp2
          go_still_tail 10, (by kernel_rfl)
          change wpList _ _ _ _ _ w2.drew
          go_wp2_with (go_at_call 74; refine (HT.out 1).mono ?_; rintro e w4 ⟨rfl, g4, h4⟩; have H4 := Lib.hid h4; clear h4)
          go_end0
          exact ⟨rfl, g4, H4.out⟩
      · cases hs
end Go.Proofs.YtjmdgicdpggljaaGreat.GH
