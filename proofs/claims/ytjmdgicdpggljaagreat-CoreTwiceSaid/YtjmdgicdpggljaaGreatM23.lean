/- What the core's cells hold, in the words that walks use. -/
import Derived.Test.YtjmdgicdpggljaaGreatM21
import Derived.Test.YtjmdgicdpggljaaGreatM22
import Derived.Deep.DeepCutAuto
import Derived.Deep.CutBlock
set_option linter.all false
namespace Go.Proofs.YtjmdgicdpggljaaGreat.GH
open Go.RowKit Go.Proofs.YtjmdgicdpggljaaGreat.Histo Go.Proofs.YtjmdgicdpggljaaGreat.Event Go.Proofs.YtjmdgicdpggljaaGreat.Ring
set_option linter.unusedVariables false
open Go.Proofs.YtjmdgicdpggljaaGreat.MapG (Codec Mk)
open Go.Proofs.YtjmdgicdpggljaaGreat.MapI (AL At Rng W64)

section
variable {w w' w'' : World} {g g' g'' : G} {s s' s'' : Core} {p : Nat}
theorem St.now (h : St w g s) (hp : g.ad .core = p) : w.cell? ⟨p, 0, none⟩ = some (.int .i64 s.now) := by subst hp; obtain ⟨ov, m⟩ := h.mem; exact m.core.blk.cell 0
theorem St.next (h : St w g s) (hp : g.ad .core = p) : w.cell? ⟨p, 1, none⟩ = some (.int .i64 s.next) := by subst hp; obtain ⟨ov, m⟩ := h.mem; exact m.core.blk.cell 1
theorem St.quota (h : St w g s) (hp : g.ad .core = p) {q : Nat} (hq : g.ad .quota = q) : w.cell? ⟨p, 2, none⟩ = some (.pointer (some ⟨q, 0, none⟩)) := by subst hp hq; obtain ⟨ov, m⟩ := h.mem; exact m.core.blk.cell 2
theorem St.toks (h : St w g s) (hp : g.ad .core = p) {q : Nat} (hq : g.ad .toks = q) : w.cell? ⟨p, 3, none⟩ = some (.map (some q)) := by subst hp hq; obtain ⟨ov, m⟩ := h.mem; exact m.core.blk.cell 3
theorem St.fns (h : St w g s) (hp : g.ad .core = p) {q : Nat} (hq : g.ad .fns = q) : w.cell? ⟨p, 4, none⟩ = some (.map (some q)) := by subst hp hq; obtain ⟨ov, m⟩ := h.mem; exact m.core.blk.cell 4
theorem St.hosts (h : St w g s) (hp : g.ad .core = p) {q : Nat} (hq : g.ad .hosts = q) : w.cell? ⟨p, 5, none⟩ = some (.pointer (some ⟨q, 0, none⟩)) := by subst hp hq; obtain ⟨ov, m⟩ := h.mem; exact m.core.blk.cell 5
theorem St.caches (h : St w g s) (hp : g.ad .core = p) {q : Nat} (hq : g.ad .caches = q) : w.cell? ⟨p, 6, none⟩ = some (.map (some q)) := by subst hp hq; obtain ⟨ov, m⟩ := h.mem; exact m.core.blk.cell 6
theorem St.boxes (h : St w g s) (hp : g.ad .core = p) {q : Nat} (hq : g.ad .boxes = q) : w.cell? ⟨p, 7, none⟩ = some (.map (some q)) := by subst hp hq; obtain ⟨ov, m⟩ := h.mem; exact m.core.blk.cell 7
theorem St.til (h : St w g s) (hp : g.ad .core = p) {q : Nat} (hq : g.ad .til = q) : w.cell? ⟨p, 8, none⟩ = some (.map (some q)) := by subst hp hq; obtain ⟨ov, m⟩ := h.mem; exact m.core.blk.cell 8
theorem St.timers (h : St w g s) (hp : g.ad .core = p) {q : Nat} (hq : g.ad .timers = q) : w.cell? ⟨p, 9, none⟩ = some (.pointer (some ⟨q, 0, none⟩)) := by subst hp hq; obtain ⟨ov, m⟩ := h.mem; exact m.core.blk.cell 9
theorem St.lt (h : St w g s) (hp : g.ad .core = p) : p < w.heap.size := by subst hp; obtain ⟨ov, m⟩ := h.mem; exact m.core.lv.lt
theorem St.frozen (h : St w g s) (hp : g.ad .core = p) (i : Nat) : w.frozen? ⟨p, i, none⟩ = false := by subst hp; obtain ⟨ov, m⟩ := h.mem; exact m.core.blk.frozen i
theorem St.box (h : St w g s) {id : Int} {b : Box} (hb : FM.get s.boxes id = some b) {q : Nat} (hq : g.ad (.box id) = q) : Blk w q 72 b.cells := by subst hq; obtain ⟨ov, m⟩ := h.mem; exact (m.boxes.each _ _ hb).blk
theorem St.sorted (h : St w g s) : FM.Sorted s.toks ∧ FM.Sorted s.fns ∧ FM.Sorted s.caches ∧ FM.Sorted s.boxes ∧ FM.Sorted s.til := by obtain ⟨ov, m⟩ := h.mem; exact ⟨m.toks.sorted, m.fns.sorted, m.caches.sorted, m.boxes.sorted, m.til.sorted⟩
theorem St.drewN (h : St w g s) (n : Nat) : St (w.drewN n) g s := h.below ⟨rfl, rfl, rfl, Nat.le_refl _, fun _ _ => rfl⟩
theorem St.drew (h : St w g s) : St w.drew g s := h.below ⟨rfl, rfl, rfl, Nat.le_refl _, fun _ _ => rfl⟩
theorem To.drewN (h : To w g s w' g' s') (n : Nat) : To w g s (w'.drewN n) g' s' := h.then ⟨rfl, rfl, rfl, Nat.le_refl _, fun _ _ => rfl⟩
theorem To.drew (h : To w g s w' g' s') : To w g s w'.drew g' s' := h.then ⟨rfl, rfl, rfl, Nat.le_refl _, fun _ _ => rfl⟩
/-- What a step over named blocks leaves, where no name that is kept moves. -/
theorem To.of {T : Tag → Prop} {ov' : Value} (m : Mem w' g' s' ov') (gd : Good s') (st : Step T w g w' g') (hT : ¬ T .none) (ha : ∀ t, Kept s t → g'.ad t = g.ad t) (hk : ∀ t, Kept s t → Kept s' t) : To w g s w' g' s' :=
  ⟨⟨⟨ov', m⟩, gd⟩, st.mono fun t ht e => hT (by rw [← e]; exact ht), ha, hk⟩
theorem box_keep {b : Box} (gd : Good s) {id : Int} (hb : FM.get s.boxes id = some b) : Kept s (.box id) := (gd.boxes id b hb).2.2.1
end

/-! ### core's cache, both ways -/
theorem setCache_same {s : Core} {h : Int} {c : Cache} (hs : FM.Sorted s.caches) (hc : FM.get s.caches h = some (some c)) : s.setCache h (s.cache h) = s := by
  unfold Core.setCache Core.cache
  rw [hc]
  show ({ s with caches := FM.put s.caches h (some c) } : Core) = s
  rw [FM.put_same hs hc]
theorem Good.cache {s : Core} (gd : Good s) {h : Int} (hh : 0 ≤ h ∧ h < 32) (c : Cache) : Good (s.setCache h c) := by
  refine ⟨gd.now, gd.next, gd.toks, gd.fns, fun k x hk => ?_, gd.boxes, gd.til, gd.ans, gd.outs⟩
  have hk2 : FM.get (FM.put s.caches h (some c)) k = some x := hk
  rw [FM.get_put] at hk2
  by_cases e : k = h
  · subst e; exact hh
  · rw [if_neg e] at hk2; exact gd.caches k x hk2
def CacheOut (h : Int) (w : World) (g : G) (s : Core) (e : Ending) (w' : World) : Prop :=
  ∃ g', e = .returned (vptr (g'.ad (.cache h))) ∧ To w g s w' g' (s.setCache h (s.cache h)) ∧ (∀ t, ¬ CacheTags h t → g'.ad t = g.ad t)
theorem ccache_any {w : World} {g : G} {s : Core} {p : Nat} {h : Int} (st : St w g s) (hp : g.ad .core = p) (hh : 0 ≤ h ∧ h < 32) : Calls Tryz.prog 109 #[vptr p, .int .i64 h] w (CacheOut h w g s) := by
  subst hp
  obtain ⟨ov, m⟩ := st.mem
  have w64 : W64 h := MapI.w64 (by omega) (by omega)
  by_cases hc : ∃ c, FM.get s.caches h = some (some c)
  · obtain ⟨c, hc⟩ := hc
    refine (ccache_there w g s ov h c m w64 hc).mono ?_
    rintro e w' ⟨rfl, n, rfl⟩
    refine ⟨g, rfl, ?_, fun _ _ => rfl⟩
    rw [setCache_same m.caches.sorted hc]
    exact (To.refl st).drewN n
  · have hc' : ∀ c, FM.get s.caches h ≠ some (some c) := fun c e => hc ⟨c, e⟩
    have hlen := caches_len st.good m.caches.sorted
    refine (ccache_new w g s ov h m w64 hc' (by omega)).mono ?_
    rintro e w' ⟨rfl, m2, st2⟩
    have e0 : s.cache h = ⟨[], 0⟩ := by
      unfold Core.cache
      split
      · next c e => exact absurd e (hc' c)
      · rfl
    have hne : ∀ t, ¬ CacheTags h t → (gcache g h w.heap.size).ad t = g.ad t := fun t ht => gcache_ne _ _ _ _ ht
    refine ⟨gcache g h w.heap.size, by unfold gcache; rw [G.set_ad], ?_, hne⟩
    rw [e0]
    exact To.of m2 (st.good.cache hh _) st2 (by simp [NewTags, CacheTags]) (fun t ht => hne t (fun hc => by rcases hc with rfl | rfl | rfl | rfl <;> exact ht)) (fun t ht => ht)
end Go.Proofs.YtjmdgicdpggljaaGreat.GH

/- Proved: what core's take leaves. -/
namespace Go.Proofs.YtjmdgicdpggljaaGreat.GH
open Go.RowKit Go.Proofs.YtjmdgicdpggljaaGreat.Histo Go.Proofs.YtjmdgicdpggljaaGreat.Event Go.Proofs.YtjmdgicdpggljaaGreat.Ring
set_option linter.unusedVariables false
open Go.Proofs.YtjmdgicdpggljaaGreat.MapG (Codec Mk)
open Go.Proofs.YtjmdgicdpggljaaGreat.MapI (AL At Rng W64)

/-- The cache of a host with one thing done to it. -/
theorem To.cache {w w' : World} {g : G} {s : Core} {h : Int} {c c' : Cache} (st : St w g s) (hc : FM.get s.caches h = some (some c)) {v : Value} (hv : RowTag w g (.items h) v) (ht : CacheTo w (g.ad (.cache h)) (g.ad (.heap h)) (g.ad (.hat h)) v c' w') :
    ∃ g', To w g s w' g' (s.setCache h c') ∧ g'.ad (.cache h) = g.ad (.cache h) := by
  obtain ⟨ov, m⟩ := st.mem
  have cg := m.caches.each h c hc
  obtain ⟨g', st', hcg, ha⟩ := cache_step cg.l1 cg.l2 cg.l3 hv ht
  refine ⟨g', To.of (m.turn st' (s.setCache h c') ov (fun t ht => ha t (fun e => by rw [e] at ht; exact ht)) (core := .inl ⟨by simp [CacheTags], rfl, rfl, rfl, rfl⟩) (out := .inl ⟨by simp [CacheTags], rfl, rfl⟩) (quota := .inl ⟨by simp [CacheTags], rfl⟩) (toks := .inl ⟨by simp [CacheTags], rfl⟩) (fns := .inl ⟨by simp [CacheTags], rfl⟩) (hosts := .inl ⟨by simp [CacheTags], rfl⟩)
    (caches := .inr (m.caches.one hc st' hcg ha)) (boxes := .inl ⟨by simp [CacheTags], rfl⟩) (til := .inl ⟨by simp [CacheTags], rfl⟩) (timers := .inl ⟨by simp [CacheTags], rfl⟩)) (st.good.cache (st.good.caches _ _ hc) c') st' (by simp [CacheTags]) (fun t ht => ha t (fun e => by rw [e] at ht; exact ht)) (fun t ht => ht), ha _ (by simp)⟩
/-- The times that are set with one thing done to them. -/
theorem To.timers {w w' : World} {g : G} {s : Core} {t' : Timers} (st : St w g s) {v : Value} (hv : RowTag w g .titems v) (ht : TimersTo w (g.ad .timers) (g.ad .theap) (g.ad .tat) v t' w') :
    ∃ g', To w g s w' g' { s with timers := t' } := by
  obtain ⟨ov, m⟩ := st.mem
  have cg := m.timers
  obtain ⟨g', st', hcg, ha⟩ := timers_step cg.l1 cg.l2 cg.l3 hv ht
  refine ⟨g', To.of (m.turn st' { s with timers := t' } ov (fun t ht => ha t (fun e => by rw [e] at ht; exact ht)) (core := .inl ⟨by simp [TimerTags], rfl, rfl, rfl, rfl⟩) (out := .inl ⟨by simp [TimerTags], rfl, rfl⟩) (quota := .inl ⟨by simp [TimerTags], rfl⟩) (toks := .inl ⟨by simp [TimerTags], rfl⟩) (fns := .inl ⟨by simp [TimerTags], rfl⟩) (hosts := .inl ⟨by simp [TimerTags], rfl⟩)
    (caches := .inl ⟨by simp [TimerTags], rfl⟩) (boxes := .inl ⟨by simp [TimerTags], rfl⟩) (til := .inl ⟨by simp [TimerTags], rfl⟩) (timers := .inr hcg)) ⟨st.good.now, st.good.next, st.good.toks, st.good.fns, st.good.caches, st.good.boxes, st.good.til, st.good.ans, st.good.outs⟩ st' (by simp [TimerTags]) (fun t ht => ha t (fun e => by rw [e] at ht; exact ht)) (fun t ht => ht)⟩
def Did (T : World → G → Core → Prop) (e : Ending) (w' : World) : Prop := (∃ v, e = .returned v) ∧ ∃ g' s', T w' g' s'
/-- Drop of a host's cache that is there. -/
theorem cdrop_use {w : World} {g : G} {s : Core} {h id : Int} {c : Cache} {q : Nat} (st : St w g s) (hc : FM.get s.caches h = some (some c)) (hq : g.ad (.cache h) = q) (hid : W64 id) :
    Calls Tryz.prog 124 #[vptr q, .int .i64 id] w fun e w' => (∃ b, e = .returned b) ∧ ∃ g', To w g s w' g' (s.setCache h (c.drop id)) := by
  subst hq
  obtain ⟨ov, m⟩ := st.mem
  obtain ⟨v, hat, hv⟩ := (m.caches.each h c hc).at_
  refine (cdrop_any _ _ _ v c id w hat hid).mono ?_
  rintro e w' ⟨he, ht⟩
  obtain ⟨g', h1, _⟩ := To.cache st hc hv ht
  exact ⟨by obtain ⟨b, rfl⟩ := he; exact ⟨_, rfl⟩, g', h1⟩
theorem tdrop_use {w : World} {g : G} {s : Core} {k : TKey} {q : Nat} (st : St w g s) (hq : g.ad .timers = q) (hk : KeyOkT k) :
    Calls Tryz.prog 104 #[vptr q, kvalT k] w fun e w' => (∃ b, e = .returned b) ∧ ∃ g', To w g s w' g' { s with timers := s.timers.drop k } := by
  subst hq
  obtain ⟨ov, m⟩ := st.mem
  obtain ⟨v, hat, hv⟩ := m.timers.at_
  refine (tdrop_any _ _ _ v s.timers k w hat hk).mono ?_
  rintro e w' ⟨he, ht⟩
  exact ⟨by obtain ⟨b, rfl⟩ := he; exact ⟨_, rfl⟩, To.timers st hv ht⟩
set_option maxRecDepth 100000 in
set_option maxHeartbeats 4000000 in
theorem take_any {w : World} {g : G} {s : Core} {p q : Nat} {b : Box} (st : St w g s) (hp : g.ad .core = p) (hb : FM.get s.boxes b.id = some b) (hq : g.ad (.box b.id) = q) :
    Calls Tryz.prog 91 #[vptr p, vptr q] w fun e w' => e = .returned (.tuple #[]) ∧ ∃ g', To w g s w' g' (s.take b) := by
  have gd := st.good
  have hbg := (gd.boxes _ _ hb).2.2.2
  have hkb := box_keep gd hb
  obtain ⟨tm, htm⟩ : ∃ t, t = g.ad .timers := ⟨_, rfl⟩
  have b0 : w.cell? ⟨q, 0, none⟩ = some (.int .i64 b.id) := (st.box hb hq).cell 0
  have b2 : w.cell? ⟨q, 2, none⟩ = some (.int .i64 b.host) := (st.box hb hq).cell 2
  have hid := (w64_box gd hb).1
  have HC : Hid (∀ n, Calls Tryz.prog 109 #[vptr p, .int .i64 b.host] (w.drewN n) (CacheOut b.host (w.drewN n) g s)) := Lib.hid fun n => ccache_any (st.drewN n) hp hbg.host
  have HF : Hid (∀ n w1 g1, To (w.drewN n) g s w1 g1 (s.setCache b.host (s.cache b.host)) → (∀ t, ¬ CacheTags b.host t → g1.ad t = g.ad t) →
      (w1.cell? ⟨q, 0, none⟩ = some (.int .i64 b.id)) ∧ ∀ m, Calls Tryz.prog 124 #[vptr (g1.ad (.cache b.host)), .int .i64 b.id] (w1.drewN m) fun e w' => (∃ b, e = .returned b) ∧ ∃ g', To w g s w' g' (s.setCache b.host ((s.cache b.host).drop b.id))) := Lib.hid fun n w1 g1 h1 hne => by
    refine ⟨(h1.st.box (id := b.id) (b := b) hb ((h1.ad _ hkb).trans hq)).cell 0, fun m => ?_⟩
    have hc1 : FM.get (s.setCache b.host (s.cache b.host)).caches b.host = some (some (s.cache b.host)) := by show FM.get (FM.put s.caches b.host _) b.host = _; rw [FM.get_put, if_pos rfl]
    refine (cdrop_use (h1.st.drewN m) hc1 rfl hid).mono ?_
    rintro e w' ⟨he, g', h2⟩
    refine ⟨he, g', ?_⟩
    have e2 : (s.setCache b.host (s.cache b.host)).setCache b.host ((s.cache b.host).drop b.id) = s.setCache b.host ((s.cache b.host).drop b.id) := by
      unfold Core.setCache
      simp only
      congr 1
      unfold FM.put
      have : ∀ (l : FM (Option Cache)) k a, (∀ p ∈ l, p.1 ≠ k) → FM.del (FM.ins (k, a) l) k = l := by
        intro l k a
        induction l with
        | nil => intro _; simp [FM.ins, FM.del]
        | cons x r ih =>
          intro hx
          unfold FM.ins
          split
          · unfold FM.del
            rw [List.filter_cons, if_neg (by simp)]
            exact List.filter_eq_self.2 fun p hp => by simpa using hx p hp
          · have := ih fun p hp => hx p (List.mem_cons_of_mem _ hp)
            unfold FM.del at this ⊢
            rw [List.filter_cons, if_pos (by simpa using hx x List.mem_cons_self), this]
      rw [this _ _ _ fun p hp => (FM.mem_del.1 hp).2]
    rw [e2] at h2
    exact ((To.refl st).drewN n).trans (h1.trans (To.before (Below.drewN' m) h2))
  have HE : Hid (∀ w1 g1, To w g s w1 g1 (s.setCache b.host ((s.cache b.host).drop b.id)) →
      w1.cell? ⟨q, 0, none⟩ = some (.int .i64 b.id) ∧ w1.cell? ⟨p, 9, none⟩ = some (vptr tm) ∧ ∀ m, Calls Tryz.prog 104 #[vptr tm, kvalT ⟨0, b.id⟩] (w1.drewN m) fun e w' => (∃ b, e = .returned b) ∧ ∃ g', To w g s w' g' (s.take b)) := Lib.hid fun w1 g1 h1 => by
    have e1 := h1.head (t := .core) trivial
    have e2 := h1.head (t := .timers) trivial
    refine ⟨(h1.st.box (id := b.id) (b := b) hb ((h1.ad _ hkb).trans hq)).cell 0, h1.st.timers (e1.trans hp) (e2.trans htm.symm), fun m => ?_⟩
    refine (tdrop_use (h1.st.drewN m) (e2.trans htm.symm) ⟨MapI.w64 (by show (-9223372036854775808 : Int) ≤ 0; decide) (by show (0 : Int) ≤ 9223372036854775807; decide), hid⟩).mono ?_
    rintro e w' ⟨he, g', h2⟩
    exact ⟨he, g', (h1.drewN m).trans h2⟩
  obtain ⟨H, hH⟩ : ∃ h, h = b.host := ⟨_, rfl⟩
  obtain ⟨I, hI⟩ : ∃ i, i = b.id := ⟨_, rfl⟩
  rw [← hH] at b2 HC HF HE
  rw [← hI] at b0 HF HE
  clear hb hp hq htm hid hkb hbg gd st hH hI
  go_enter Tryz.func91, Tryz.ntmps91
  go_wp2
  go_region_with (first
    | (go_at_call 109; refine (HC.out _).mono ?_; rintro e w1 ⟨g1, rfl, h1, hne⟩; obtain ⟨d0, hd⟩ := HF.out _ w1 g1 h1 hne; have HD := Lib.hid hd; clear h1 hne hd)
    | (go_at_call 124; refine (HD.out 0).mono ?_; rintro e w2 ⟨⟨v, rfl⟩, g2, h2⟩; have H2 := Lib.hid h2; clear h2))
  all_goals
    obtain ⟨d0', d9, hT⟩ := HE.out _ g2 H2.out
    have HT := Lib.hid hT
    clear hT
    go_wp2
    go_still_tail 9, (by kernel_rfl)
    change wpList _ _ _ _ _ w2.drew
    go_wp2_with (go_at_call 104; refine (HT.out 1).mono ?_; rintro e w4 ⟨⟨v, rfl⟩, h4⟩; have H4 := Lib.hid h4; clear h4)
    go_end0
    exact ⟨rfl, H4.out⟩
end Go.Proofs.YtjmdgicdpggljaaGreat.GH

/- Proved: what the core's where answers: the numbers of the sandboxes of which something holds, in order. -/
namespace Go.Proofs.YtjmdgicdpggljaaGreat.GH
open Go.RowKit Go.Proofs.YtjmdgicdpggljaaGreat.Histo Go.Proofs.YtjmdgicdpggljaaGreat.Event Go.Proofs.YtjmdgicdpggljaaGreat.Ring
set_option linter.unusedVariables false
open Go.Proofs.YtjmdgicdpggljaaGreat.MapG (Codec Mk)
open Go.Proofs.YtjmdgicdpggljaaGreat.MapI (AL At Rng W64)

/-- A function value answers of each sandbox, for as long as what is there stays. -/
def Asks (f : Nat) (lb : Array Value) (pred : Box → Bool) (w : World) : Prop :=
  ∀ W pb b, (∀ k, k < w.heap.size → W.heap[k]? = w.heap[k]?) → Blk W pb 72 b.cells → Calls Tryz.prog f (#[vptr pb] ++ lb) W (RetV (.bool (pred b)) W)
theorem zero_boxW (w : World) : (zeroValue 73).run Tryz.prog w = .ok (.pointer none) w := by kernel_rfl
theorem boxes_look {w : World} {g : G} {l : FM Box} (m : BoxesAt w g l) {id : Int} (hh : W64 id) {W : World} (e : W.heap[g.ad .boxes]? = w.heap[g.ad .boxes]?) :
    (Instr.lookup 52 (.map (some (g.ad .boxes))) (.int .i64 id) false).run Tryz.prog W = .ok (((FM.get l id).map (fun _ => vptr (g.ad (.box id)))).getD (.pointer none)) W := by
  have := MapI.At.look (m.map.same e) (by kernel_rfl) Tryz.underlying52 (zero_boxW W) hh
  rw [this, FM.get_vals]
set_option maxRecDepth 100000 in
set_option maxHeartbeats 4000000 in
theorem where1_any (f : Nat) (lb : Array Value) (pred : Box → Bool) (w : World) (g : G) (s : Core) (ov : Value) (m : Mem w g s ov) (gd : Good s) (ha : Asks f lb pred w) (eg : ∀ args w, (callFunc f args).run Tryz.prog w = .ok (.enter f args) w)
    (id : Int) (b : Box) (hb : FM.get s.boxes id = some b) (W : World) (hW : ∀ k, k < w.heap.size → W.heap[k]? = w.heap[k]?) (B0 B1 : Nat) (h0 : W.cell? ⟨B0, 0, none⟩ = some (vptr (g.ad .core))) (h1 : W.cell? ⟨B1, 0, none⟩ = some (.func (.func f) #[] lb)) :
    Calls Tryz.prog 96 #[.int .i64 id, vptr B1, vptr B0] W (RetV (.bool (!pred b)) W) := by
  have hl : ∀ n, (Instr.lookup 52 (.map (some (g.ad .boxes))) (.int .i64 id) false).run Tryz.prog (W.drewN n) = .ok (vptr (g.ad (.box id))) (W.drewN n) := fun n => by
    have := boxes_look m.boxes (W := W.drewN n) (w64_box gd hb).1 (hW _ m.boxes.lv.lt)
    rw [hb] at this
    exact this
  have hbk := m.boxes.each id b hb
  have c7 : W.cell? ⟨g.ad .core, 7, none⟩ = some (.map (some (g.ad .boxes))) := by
    have := (show Blk W (g.ad .core) _ _ from (hW _ m.core.lv.lt).trans m.core.blk).cell 7
    exact this
  have hc : ∀ n, Calls Tryz.prog f (#[vptr (g.ad (.box id))] ++ lb) (W.drewN n) (RetV (.bool (pred b)) (W.drewN n)) := fun n => ha _ _ b hW ((hW _ hbk.lv.lt).trans hbk.blk)
  have hc0 : Calls Tryz.prog f (#[vptr (g.ad (.box id))] ++ lb) W (RetV (.bool (pred b)) W) := ha _ _ b hW ((hW _ hbk.lv.lt).trans hbk.blk)
  clear m hb hbk ha hW
  generalize g.ad .core = p at h0 c7
  generalize g.ad .boxes = mb at c7 hl
  generalize g.ad (.box id) = pb at hl hc hc0
  generalize pred b = r at hc hc0 ⊢
  have HC := Lib.hid hc
  have HC0 := Lib.hid hc0
  clear hc hc0
  go_enter Tryz.func96, Tryz.ntmps96
  go_wp2
  go_quiet ((go_at_fn f; first | exact Calls.quiet_of HC0.out | exact Calls.quiet_of (HC.out _)))
  go_wp2
  go_ret
  exact ⟨by cases r <;> rfl, _, rfl⟩
theorem where_filter (pred : Box → Bool) : ∀ (l : FM Box), FM.Sorted l → (FM.keys l).filter (fun id => !(match FM.get l id with | some b => !pred b | none => true)) = (l.filter fun x => pred x.2).map (·.1) := by
  intro l hs
  have aux : ∀ l' : FM Box, (∀ p ∈ l', FM.get l p.1 = some p.2) → (FM.keys l').filter (fun id => !(match FM.get l id with | some b => !pred b | none => true)) = (l'.filter fun x => pred x.2).map (·.1) := by
    intro l'
    induction l' with
    | nil => intro _; rfl
    | cons p r ih =>
      intro h
      unfold FM.keys at ih ⊢
      rw [List.map_cons, List.filter_cons, List.filter_cons, ih fun q hq => h q (List.mem_cons_of_mem _ hq), h p List.mem_cons_self]
      cases hp : pred p.2 <;> simp [hp]
  exact aux l fun p hp => FM.get_of_mem hs hp
set_option maxRecDepth 100000 in
set_option maxHeartbeats 4000000 in
theorem where_any (f : Nat) (lb : Array Value) (pred : Box → Bool) (w : World) (g : G) (s : Core) (h : St w g s) (ha : Asks f lb pred w) (eg : ∀ args w, (callFunc f args).run Tryz.prog w = .ok (.enter f args) w) :
    Calls Tryz.prog 53 #[vptr (g.ad .core), .func (.func f) #[] lb] w (NumsOut (s.where_ pred) w) := by
  obtain ⟨ov, m⟩ := h.mem
  have gd := h.good
  have hlen : s.boxes.length ≤ 1099511627776 := by
    have h1 := FM.length_le (n := s.next.toNat) m.boxes.sorted (fun p hp => by obtain ⟨_, h2, h3, _⟩ := gd.boxes p.1 p.2 (FM.get_of_mem m.boxes.sorted hp); omega)
    have := gd.next
    omega
  have c7 : w.cell? ⟨g.ad .core, 7, none⟩ = some (.map (some (g.ad .boxes))) := m.core.blk.cell 7
  have hids : ∀ W, Below w.heap.size w W → Calls Tryz.prog 17 #[vptr (g.ad .core)] W (NumsOut (FM.keys s.boxes) W) := fun W hb => by
    have := ids_any W (g.ad .core) (g.ad .boxes) _ _ ((hb.cell (p := ⟨_, 7, none⟩) m.core.lv.lt).trans c7) (Nat.lt_of_lt_of_le m.core.lv.lt hb.size) (MapI.At.same m.boxes.map (hb.block _ m.boxes.lv.lt)) (by rw [FM.length_vals]; exact hlen)
    rw [show (FM.vals (fun id (_ : Box) => ptr (g.ad (.box id))) s.boxes).map (·.1) = FM.keys s.boxes from by unfold FM.vals FM.keys; rw [List.map_map]; rfl] at this
    exact this
  have hdel : ∀ W q cap cs B0 B1, (∀ k, k < w.heap.size → W.heap[k]? = w.heap[k]?) → w.heap.size ≤ q → B0 ≠ q → B1 ≠ q → Blk W B0 24 #[vptr (g.ad .core)] → Blk W B1 136 #[.func (.func f) #[] lb] → Blk W q 3 cs → (FM.keys s.boxes).length ≤ cap → cap ≤ 9223372036854775807 →
      (∀ k, k < (FM.keys s.boxes).length → cs[k]? = some (.int .i64 ((FM.keys s.boxes).getD k 0))) →
      Calls Tryz.prog 95 #[.slice (some ⟨q, 0, none⟩) (FM.keys s.boxes).length cap, .func (.func 96) #[] #[vptr B1, vptr B0]] W (Rest W q cap (s.where_ pred)) := fun W q cap cs B0 B1 hW hq n0 n1 b0 b1 bq hc1 hc2 hcs => by
    have := delf_any 96 #[vptr B1, vptr B0] (fun id => match FM.get s.boxes id with | some b => !pred b | none => true) (FM.keys s.boxes) q cap cs W bq hcs (fun x hx W2 hW2 => by
      obtain ⟨⟨x', b⟩, hp, rfl⟩ := List.mem_map.1 hx
      have hg := FM.get_of_mem m.boxes.sorted hp
      have e1 : (match FM.get s.boxes x' with | some b => !pred b | none => true) = !pred b := by rw [hg]
      simp only [e1]
      exact where1_any f lb pred w g s ov m gd ha eg x' b hg W2 (fun k hk => by
        have hkW : k < W.heap.size := by
          rcases Nat.lt_or_ge k W.heap.size with h | h
          · exact h
          · have := hW k hk
            rw [Array.getElem?_eq_none h, Array.getElem?_eq_getElem hk] at this
            cases this
        rw [hW2.block k hkW (fun e => by cases e; omega), hW k hk]) B0 B1 ((b0.grown hW2 (fun e => by cases e; exact n0 rfl)).cell 0) ((b1.grown hW2 (fun e => by cases e; exact n1 rfl)).cell 0)) (enters_of Tryz.func96 (by kernel_rfl) rfl) hc1 hc2
    rw [where_filter pred s.boxes m.boxes.sorted] at this
    exact this
  have hempty : s.boxes = [] → s.where_ pred = [] := fun e => by unfold Core.where_; rw [e]; rfl
  have hcl := m.core.lv.lt
  have HI := Lib.hid hids
  have HD := Lib.hid hdel
  have HE := Lib.hid hempty
  have hkn : FM.keys s.boxes = [] → s.boxes = [] := fun e => by unfold FM.keys at e; simpa using e
  have HK := Lib.hid hkn
  have hlr : (s.where_ pred).length ≤ (FM.keys s.boxes).length := by unfold Core.where_ FM.keys; rw [List.length_map, List.length_map]; exact List.length_filter_le _ _
  have HR := Lib.hid hlr
  clear hids hdel m gd h ha hempty hkn hlen c7 hlr
  generalize s.where_ pred = R at HD HE HR ⊢
  generalize hks : FM.keys s.boxes = xs at HI HD HK HR
  generalize g.ad .core = p at HI HD hcl ⊢
  clear hks
  go_enter Tryz.func53, Tryz.ntmps53
  go_upto_region 1 with (fail)
  have hb2 : Below w.heap.size w ((w.alloc (.cells #[vptr p] 24)).alloc (.cells #[.func (.func f) #[] lb] 136)) := ((Below.refl _ _).alloc (Nat.le_refl _) _).alloc (by simp) _
  have x0 := (Blk.new w 24 #[vptr p]).alloc (.cells #[.func (.func f) #[] lb] 136)
  have x1 : Blk ((w.alloc (.cells #[vptr p] 24)).alloc (.cells #[.func (.func f) #[] lb] 136)) (w.heap.size + 1) 136 #[.func (.func f) #[] lb] := by
    have := Blk.new (w.alloc (.cells #[vptr p] 24)) 136 #[.func (.func f) #[] lb]
    simpa using this
  have hsz : ((w.alloc (.cells #[vptr p] 24)).alloc (.cells #[.func (.func f) #[] lb] 136)).heap.size = w.heap.size + 2 := by simp
  generalize (w.alloc (.cells #[vptr p] 24)).alloc (.cells #[.func (.func f) #[] lb] 136) = w2 at hb2 x0 x1 hsz ⊢
  have d0 := x0.cell 0
  simp only [List.getElem?_toArray, List.getElem?_cons_zero] at d0
  have HB2 := Lib.hid hb2
  have HX0 := Lib.hid x0
  have HX1 := Lib.hid x1
  have HSZ := Lib.hid hsz
  have hi2 := HI.out w2 hb2
  clear hb2 x0 x1 hsz
  have hN : ∀ w3 v, Nums w2.heap.size w3 v xs → Below w2.heap.size w2 w3 → Calls Tryz.prog 95 #[v, .func (.func 96) #[] #[vptr (w.heap.size + 1), vptr w.heap.size]] w3 (fun e w' => ∃ v', e = .returned v' ∧ Nums w.heap.size w' v' R ∧ Below w.heap.size w w') := fun w3 v hv hb3 => by
    have hs2 := HSZ.out
    have hbw : Below w.heap.size w w3 := below_step HB2.out hb3
    have hsz3 := hb3.size
    rcases hv with ⟨rfl, hx⟩ | ⟨q, cap, cs, rfl, h1, h2, h3, h4, h5⟩
    · refine (delf_nil _ w3).mono ?_
      rintro e w' ⟨rfl, rfl⟩
      exact ⟨_, rfl, .inl ⟨rfl, HE.out (HK.out hx)⟩, hbw⟩
    · refine (HD.out w3 q cap cs w.heap.size (w.heap.size + 1) (fun k hk => hbw.block k hk) (by omega) (by omega) (by omega) (HX0.out.below hb3 (by omega)) (HX1.out.below hb3 (by omega)) h4 h2 h3 h5).mono ?_
      rintro e w' ⟨rfl, hg, cs', hbk, hcs⟩
      refine ⟨_, rfl, .inr ⟨q, cap, cs', rfl, by omega, ?_, h3, hbk, hcs⟩, below_only hbw hg (by omega) (by omega)⟩
      exact Nat.le_trans (HR.out) h2
  have HN := Lib.hid hN
  clear hN
  go_wp2_with (first
    | (go_at_call 17; refine hi2.mono ?_; rintro e w3 ⟨v, rfl, hv, hb3⟩; have hn := HN.out w3 v hv hb3; have HN3 := Lib.hid hn; clear hn hv hb3)
    | (go_at_call 95; refine HN3.out.mono ?_; rintro e w4 ⟨v', rfl, hv', hb4⟩; have H4 := Lib.hid (And.intro hv' hb4); clear hv' hb4))
  go_ret
  exact ⟨_, rfl, H4.out.1, H4.out.2⟩
end Go.Proofs.YtjmdgicdpggljaaGreat.GH

/- Proved: what each method of a part of the core leaves of the whole: the part is turned, all else stands. -/
namespace Go.Proofs.YtjmdgicdpggljaaGreat.GH
open Go.RowKit Go.Proofs.YtjmdgicdpggljaaGreat.Histo Go.Proofs.YtjmdgicdpggljaaGreat.Event Go.Proofs.YtjmdgicdpggljaaGreat.Ring
set_option linter.unusedVariables false
open Go.Proofs.YtjmdgicdpggljaaGreat.MapG (Codec Mk)
open Go.Proofs.YtjmdgicdpggljaaGreat.MapI (AL At Rng W64)

/-- What a step that moves no name leaves. -/
structure ToS (T : Tag → Prop) (w : World) (g : G) (s : Core) (w' : World) (s' : Core) : Prop where
  all : To w g s w' g s'
  step : Step T w g w' g
section
variable {T : Tag → Prop} {w w' : World} {g : G} {s s' : Core} {ov ov' : Value} {p q : Nat}
theorem ToS.mk' (m : Mem w' g s' ov') (gd : Good s') (st : Step T w g w' g) (hT : ¬ T .none) (hk : ∀ t, Kept s t → Kept s' t) : ToS T w g s w' s' := ⟨To.of m gd st hT (fun _ _ => rfl) hk, st⟩
theorem kept_put {α : Type} {l : FM α} {k : Int} {a : α} {f : Int} (h : (FM.get l f).isSome = true) : (FM.get (FM.put l k a) f).isSome = true := by
  rw [FM.get_put]
  split
  · rfl
  · exact h

/-! ### quota and hosts -/
theorem To.quota (st : St w g s) (hq : g.ad .quota = q) {q' : Quota} (hb : QuotaAt w' q q') (ok : q'.Ok) (hg : w.grownBy w' (some q)) : ToS (fun t => t = .quota) w g s w' { s with quota := q' } := by
  subst hq
  obtain ⟨ov, m⟩ := st.mem
  have s1 : Step (fun t => t = .quota) w g w' g := Step.of_grown hg (fun k e => by cases e; exact m.quota.lv.own)
  exact ToS.mk' (m.turn s1 { s with quota := q' } ov (fun _ _ => rfl) (quota := .inr ⟨⟨⟨m.quota.lv.own, hb.lt⟩, hb⟩, ok⟩)) ⟨st.good.now, st.good.next, st.good.toks, st.good.fns, st.good.caches, st.good.boxes, st.good.til, st.good.ans, st.good.outs⟩ s1 (by simp) (fun t ht => ht)
theorem To.hosts (st : St w g s) (hq : g.ad .hosts = q) {q' : Hosts} (hb : HostsAt w' q q') (ok : q'.Ok) (hg : w.grownBy w' (some q)) : ToS (fun t => t = .hosts) w g s w' { s with hosts := q' } := by
  subst hq
  obtain ⟨ov, m⟩ := st.mem
  have s1 : Step (fun t => t = .hosts) w g w' g := Step.of_grown hg (fun k e => by cases e; exact m.hosts.lv.own)
  exact ToS.mk' (m.turn s1 { s with hosts := q' } ov (fun _ _ => rfl) (hosts := .inr ⟨⟨⟨m.hosts.lv.own, hb.lt⟩, hb⟩, ok⟩)) ⟨st.good.now, st.good.next, st.good.toks, st.good.fns, st.good.caches, st.good.boxes, st.good.til, st.good.ans, st.good.outs⟩ s1 (by simp) (fun t ht => ht)
theorem qend_use (st : St w g s) (hq : g.ad .quota = q) (k : Int) : Calls Tryz.prog 72 #[vptr q, .int .i64 k] w fun e w' => (∃ b, e = .returned b) ∧ ToS (fun t => t = .quota) w g s w' { s with quota := s.quota.fin k } := by
  obtain ⟨ov, m⟩ := st.mem
  refine (qend_any q s.quota k w (by subst hq; exact m.quota.blk) m.qok).mono ?_
  rintro e w' ⟨b, rfl, h1, h2⟩
  exact ⟨⟨_, rfl⟩, To.quota st hq h1 (fin_ok m.qok k) h2⟩
theorem qbegin_use (st : St w g s) (hq : g.ad .quota = q) (k : Int) : Calls Tryz.prog 105 #[vptr q, .int .i64 k] w fun e w' => (∃ b, e = .returned b) ∧ ToS (fun t => t = .quota) w g s w' { s with quota := s.quota.begin k } := by
  obtain ⟨ov, m⟩ := st.mem
  refine (qbegin_any q s.quota k w (by subst hq; exact m.quota.blk) m.qok).mono ?_
  rintro e w' ⟨b, rfl, h1, h2⟩
  exact ⟨⟨_, rfl⟩, To.quota st hq h1 (begin_ok m.qok k) h2⟩
theorem setFunc_use (st : St w g s) (hq : g.ad .quota = q) (k x r : Int) : Calls Tryz.prog 47 #[vptr q, .int .i64 k, .int .i64 x, .int .i64 r] w fun e w' => e = .returned (.int .i64 (s.quota.setFunc k x r).1) ∧ ToS (fun t => t = .quota) w g s w' { s with quota := (s.quota.setFunc k x r).2 } := by
  obtain ⟨ov, m⟩ := st.mem
  refine (setFunc_any q s.quota k x r w (by subst hq; exact m.quota.blk) m.qok).mono ?_
  rintro e w' ⟨rfl, h1, h2⟩
  exact ⟨rfl, To.quota st hq h1 (setFunc_ok m.qok k x r) h2⟩
theorem setAccount_use (st : St w g s) (hq : g.ad .quota = q) (x l : Int) : Calls Tryz.prog 44 #[vptr q, .int .i64 x, .int .i64 l] w fun e w' => e = .returned (.int .i64 (s.quota.setAccount x l).1) ∧ ToS (fun t => t = .quota) w g s w' { s with quota := (s.quota.setAccount x l).2 } := by
  obtain ⟨ov, m⟩ := st.mem
  refine (setAccount_any q s.quota x l w (by subst hq; exact m.quota.blk) m.qok).mono ?_
  rintro e w' ⟨rfl, h1, h2⟩
  exact ⟨rfl, To.quota st hq h1 (setAccount_ok m.qok x l) h2⟩
theorem qbusy_use (st : St w g s) (hq : g.ad .quota = q) (k : Int) : Calls Tryz.prog 101 #[vptr q, .int .i64 k] w (RetV (.int .i64 (s.quota.busyOf k)) w) := by
  obtain ⟨ov, m⟩ := st.mem
  exact qbusy_any q s.quota k w (by subst hq; exact m.quota.blk) m.qok
theorem ask_use (st : St w g s) (hq : g.ad .quota = q) (k : Int) : Calls Tryz.prog 60 #[vptr q, .int .i64 k] w (Asked (s.quota.ask k) w) := by
  obtain ⟨ov, m⟩ := st.mem
  exact ask_any q s.quota k w (by subst hq; exact m.quota.blk) m.qok
theorem hgive_use (st : St w g s) (hq : g.ad .hosts = q) (h mem : Int) : Calls Tryz.prog 98 #[vptr q, .int .i64 h, .int .i64 mem] w fun e w' => (∃ b, e = .returned b) ∧ ToS (fun t => t = .hosts) w g s w' { s with hosts := s.hosts.give h mem } := by
  obtain ⟨ov, m⟩ := st.mem
  refine (hgive_any q s.hosts h mem w (by subst hq; exact m.hosts.blk) m.hok).mono ?_
  rintro e w' ⟨b, rfl, h1, h2⟩
  exact ⟨⟨_, rfl⟩, To.hosts st hq h1 (give_ok m.hok h mem) h2⟩
theorem htake_use (st : St w g s) (hq : g.ad .hosts = q) (h mem : Int) : Calls Tryz.prog 111 #[vptr q, .int .i64 h, .int .i64 mem] w fun e w' => (∃ b, e = .returned b) ∧ ToS (fun t => t = .hosts) w g s w' { s with hosts := s.hosts.take h mem } := by
  obtain ⟨ov, m⟩ := st.mem
  refine (htake_any q s.hosts h mem w (by subst hq; exact m.hosts.blk) m.hok).mono ?_
  rintro e w' ⟨b, rfl, h1, h2⟩
  exact ⟨⟨_, rfl⟩, To.hosts st hq h1 (take_ok m.hok h mem) h2⟩
theorem hadd_use (st : St w g s) (hq : g.ad .hosts = q) (h x : Int) : Calls Tryz.prog 24 #[vptr q, .int .i64 h, .int .i64 x] w fun e w' => e = .returned (.int .i64 (s.hosts.add h x).1) ∧ ToS (fun t => t = .hosts) w g s w' { s with hosts := (s.hosts.add h x).2 } := by
  obtain ⟨ov, m⟩ := st.mem
  refine (hadd_any q s.hosts h x w (by subst hq; exact m.hosts.blk) m.hok).mono ?_
  rintro e w' ⟨rfl, h1, h2⟩
  exact ⟨rfl, To.hosts st hq h1 (add_ok m.hok h x) h2⟩
theorem hdrain_use (st : St w g s) (hq : g.ad .hosts = q) (h : Int) : Calls Tryz.prog 52 #[vptr q, .int .i64 h] w fun e w' => e = .returned (.int .i64 (s.hosts.drain h).1) ∧ ToS (fun t => t = .hosts) w g s w' { s with hosts := (s.hosts.drain h).2 } := by
  obtain ⟨ov, m⟩ := st.mem
  refine (hdrain_any q s.hosts h w (by subst hq; exact m.hosts.blk) m.hok).mono ?_
  rintro e w' ⟨rfl, h1, h2⟩
  exact ⟨rfl, To.hosts st hq h1 (drain_ok m.hok h) h2⟩
theorem hfail_use (st : St w g s) (hq : g.ad .hosts = q) (h : Int) : Calls Tryz.prog 59 #[vptr q, .int .i64 h] w fun e w' => (∃ b, e = .returned b) ∧ ToS (fun t => t = .hosts) w g s w' { s with hosts := s.hosts.fail h } := by
  obtain ⟨ov, m⟩ := st.mem
  refine (hfail_any q s.hosts h w (by subst hq; exact m.hosts.blk) m.hok).mono ?_
  rintro e w' ⟨b, rfl, h1, h2⟩
  exact ⟨⟨_, rfl⟩, To.hosts st hq h1 (fail_ok m.hok h) h2⟩
theorem hup_use (st : St w g s) (hq : g.ad .hosts = q) (h : Int) : Calls Tryz.prog 73 #[vptr q, .int .i64 h] w (RetV (.bool (s.hosts.up h)) w) := by
  obtain ⟨ov, m⟩ := st.mem
  exact hup_any q s.hosts h w (by subst hq; exact m.hosts.blk) m.hok
theorem hThere_use (st : St w g s) (hq : g.ad .hosts = q) (h : Int) : Calls Tryz.prog 56 #[vptr q, .int .i64 h] w (RetV (.bool (s.hosts.there h)) w) := by
  obtain ⟨ov, m⟩ := st.mem
  exact hThere_any q s.hosts h w (by subst hq; exact m.hosts.blk) m.hok
theorem hfree_use (st : St w g s) (hq : g.ad .hosts = q) (h : Int) : Calls Tryz.prog 107 #[vptr q, .int .i64 h] w (RetV (.int .i64 (s.hosts.free h)) w) := by
  obtain ⟨ov, m⟩ := st.mem
  exact hfree_any q s.hosts h w (by subst hq; exact m.hosts.blk) m.hok
theorem hfit_use (st : St w g s) (hq : g.ad .hosts = q) (mem : Int) : Calls Tryz.prog 85 #[vptr q, .int .i64 mem] w (RetV (fitVal (s.hosts.fit mem)) w) := by
  obtain ⟨ov, m⟩ := st.mem
  exact hfit_any q s.hosts mem w (by subst hq; exact m.hosts.blk) m.hok

/-! ### sandboxes -/
theorem Good.box (gd : Good s) (hs : FM.Sorted s.boxes) {b0 b : Box} (hb : FM.get s.boxes b.id = some b0) (hg : b.Good) : Good (s.setBox b) := by
  refine ⟨gd.now, gd.next, gd.toks, gd.fns, gd.caches, fun k x hk => ?_, gd.til, gd.ans, by show ((s.out.length + (FM.put s.boxes b.id b).length : Nat) : Int) ≤ _; rw [FM.length_put_there hs hb]; exact gd.outs⟩
  have hk2 : FM.get (FM.put s.boxes b.id b) k = some x := hk
  rw [FM.get_put] at hk2
  by_cases e : k = b.id
  · subst e; rw [if_pos rfl] at hk2; cases hk2
    obtain ⟨_, h1, h2, _⟩ := gd.boxes _ _ hb
    exact ⟨rfl, h1, h2, hg⟩
  · rw [if_neg e] at hk2; exact gd.boxes k x hk2
theorem To.box (st : St w g s) {b0 b : Box} (hb : FM.get s.boxes b.id = some b0) (hq : g.ad (.box b.id) = q) (hg : b.Good) (hbk : Blk w' q 72 b.cells) (hgr : w.grownBy w' (some q)) : ToS (fun t => t = .box b.id) w g s w' (s.setBox b) := by
  subst hq
  obtain ⟨ov, m⟩ := st.mem
  have s1 : Step (fun t => t = .box b.id) w g w' g := Step.of_grown hgr (fun k e => by cases e; exact (m.boxes.each _ _ hb).lv.own)
  exact ToS.mk' (m.turn s1 (s.setBox b) ov (fun _ _ => rfl) (boxes := .inr (m.boxes.one hb s1 hbk))) (st.good.box m.boxes.sorted hb hg) s1 (by simp) (fun t ht => ht)
theorem Box.Good.dead {b : Box} (h : b.Good) {now : Int} (h0 : 0 ≤ now) (h1 : now ≤ 1099511627776) : (b.dead now).Good := by
  unfold Box.dead
  split
  · exact h
  · exact ⟨h.fn, h.host, h.mem, by simp, ⟨h0, h1⟩⟩
theorem Box.Good.call {b : Box} (h : b.Good) {now : Int} (h0 : 0 ≤ now) (h1 : now ≤ 1099511627776) : (b.call now).Good := by
  unfold Box.call
  split
  · exact ⟨h.fn, h.host, h.mem, by simp, ⟨h0, h1⟩⟩
  split
  · exact ⟨h.fn, h.host, h.mem, h.st, h.since⟩
  · exact h
theorem Box.Good.booted {b : Box} (h : b.Good) {now : Int} (h0 : 0 ≤ now) (h1 : now ≤ 1099511627776) : (b.booted now).Good := by
  unfold Box.booted
  split
  · exact ⟨h.fn, h.host, h.mem, by simp, ⟨h0, h1⟩⟩
  · exact ⟨h.fn, h.host, h.mem, by simp, ⟨h0, h1⟩⟩
theorem dead_id (b : Box) (now : Int) : (b.dead now).id = b.id := by unfold Box.dead; split <;> rfl
theorem call_id (b : Box) (now : Int) : (b.call now).id = b.id := by unfold Box.call; split; rfl; split <;> rfl
theorem booted_id (b : Box) (now : Int) : (b.booted now).id = b.id := by unfold Box.booted; split <;> rfl
theorem bkill_use (st : St w g s) {b : Box} (hb : FM.get s.boxes b.id = some b) (hq : g.ad (.box b.id) = q) : Calls Tryz.prog 97 #[vptr q, .int .i64 s.now] w fun e w' => (∃ b, e = .returned b) ∧ ToS (fun t => t = .box b.id) w g s w' (s.setBox (b.dead s.now)) ∧ Blk w' q 72 (b.dead s.now).cells := by
  refine (bkill_any q b s.now w (st.box hb hq)).mono ?_
  rintro e w' ⟨rfl, h1, h2⟩
  have hid := dead_id b s.now
  have := To.box (b := b.dead s.now) st (by rw [hid]; exact hb) (by rw [hid]; exact hq) ((st.good.boxes _ _ hb).2.2.2.dead st.good.now.1 st.good.now.2) h1 h2
  rw [hid] at this
  exact ⟨⟨_, rfl⟩, this, h1⟩
theorem bcall_use (st : St w g s) {b : Box} (hb : FM.get s.boxes b.id = some b) (hq : g.ad (.box b.id) = q) : Calls Tryz.prog 106 #[vptr q, .int .i64 s.now] w fun e w' => (∃ b, e = .returned b) ∧ ToS (fun t => t = .box b.id) w g s w' (s.setBox (b.call s.now)) := by
  refine (bcall_any q b s.now w (st.box hb hq)).mono ?_
  rintro e w' ⟨rfl, h1, h2⟩
  have hid := call_id b s.now
  have := To.box (b := b.call s.now) st (by rw [hid]; exact hb) (by rw [hid]; exact hq) ((st.good.boxes _ _ hb).2.2.2.call st.good.now.1 st.good.now.2) h1 h2
  rw [hid] at this
  exact ⟨⟨_, rfl⟩, this⟩
theorem runs_use (st : St w g s) {b : Box} {id : Int} (hb : FM.get s.boxes id = some b) (hq : g.ad (.box id) = q) : Calls Tryz.prog 55 #[vptr q] w (RetV (.bool b.runs) w) := runs_any q b w (st.box hb hq)
theorem idle_use (st : St w g s) {b : Box} {id : Int} (hb : FM.get s.boxes id = some b) (hq : g.ad (.box id) = q) : Calls Tryz.prog 69 #[vptr q] w (RetV (.bool b.idle) w) := idle_any q b w (st.box hb hq)
/-- A box's field that is stored. -/
theorem To.boxField (st : St w g s) {b : Box} (hb : FM.get s.boxes b.id = some b) (hq : g.ad (.box b.id) = q) (i : Nat) (v : Value) {b' : Box} (hid : b'.id = b.id) (hc : b.cells.setIfInBounds i v = b'.cells) (hg : b'.Good) : ToS (fun t => t = .box b.id) w g s (w.setCell ⟨q, i, none⟩ v) (s.setBox b') := by
  have h1 := (st.box hb hq).set_ i v
  rw [hc] at h1
  have := To.box (b := b') st (by rw [hid]; exact hb) (by rw [hid]; exact hq) hg h1 (only_setCell (only_refl _ _) (.inl rfl) _)
  rw [hid] at this
  exact this

/-! ### functions -/
theorem Good.fn (gd : Good s) {f : Int} {x0 x : Fn} (hx : FM.get s.fns f = some x0) (hg : x.Good) : Good { s with fns := FM.put s.fns f x } := by
  refine ⟨gd.now, gd.next, gd.toks, fun k y hk => ?_, gd.caches, gd.boxes, gd.til, gd.ans, gd.outs⟩
  have hk2 : FM.get (FM.put s.fns f x) k = some y := hk
  rw [FM.get_put] at hk2
  by_cases e : k = f
  · subst e; rw [if_pos rfl] at hk2; cases hk2
    obtain ⟨h1, h2, _⟩ := gd.fns _ _ hx
    exact ⟨h1, h2, hg⟩
  · rw [if_neg e] at hk2; exact gd.fns k y hk2
theorem To.fn (st : St w g s) {f : Int} {x0 x : Fn} (hx : FM.get s.fns f = some x0) (hg : x.Good) (s1 : Step (fun t => t = .fn f ∨ t = .hist f ∨ t = .ring f) w g w' g) (ha : FnAt w' g f x) : ToS (fun t => t = .fn f ∨ t = .hist f ∨ t = .ring f) w g s w' { s with fns := FM.put s.fns f x } := by
  obtain ⟨ov, m⟩ := st.mem
  refine ToS.mk' (m.turn s1 { s with fns := FM.put s.fns f x } ov (fun _ _ => rfl) (fns := .inr (m.fns.one hx s1 ha))) (st.good.fn hx hg) s1 (by simp) (fun t ht => ?_)
  cases t <;> first | exact ht | exact kept_put ht
theorem St.fnAt (st : St w g s) {f : Int} {x : Fn} (hx : FM.get s.fns f = some x) : FnAt w g f x := by obtain ⟨ov, m⟩ := st.mem; exact m.fns.each f x hx
theorem St.fnBlk (st : St w g s) {f : Int} {x : Fn} (hx : FM.get s.fns f = some x) (hq : g.ad (.fn f) = q) : Blk w q 130 (x.cells (g.ad (.hist f)) (g.ad (.ring f))) := by subst hq; exact (st.fnAt hx).blk.blk
/-- A function's field that is stored. -/
theorem To.fnField (st : St w g s) {f : Int} {x : Fn} (hx : FM.get s.fns f = some x) (hq : g.ad (.fn f) = q) (i : Nat) (v : Value) {x' : Fn} (hc : ∀ h r, (x.cells h r).setIfInBounds i v = x'.cells h r) (hh : x'.hist = x.hist) (hr : x'.ring = x.ring) (hg : x'.Good) :
    ToS (fun t => t = .fn f ∨ t = .hist f ∨ t = .ring f) w g s (w.setCell ⟨q, i, none⟩ v) { s with fns := FM.put s.fns f x' } := by
  subst hq
  have fa := st.fnAt hx
  have s0 : Step (fun t => t = .fn f) w g (w.setCell ⟨g.ad (.fn f), i, none⟩ v) g := Step.of_grown (only_setCell (only_refl _ (some (g.ad (.fn f)))) (.inl rfl) v) (fun k e => by cases e; exact fa.blk.lv.own)
  have s1 : Step (fun t => t = .fn f ∨ t = .hist f ∨ t = .ring f) w g (w.setCell ⟨g.ad (.fn f), i, none⟩ v) g := s0.mono fun t ht => .inl ht
  refine To.fn st hx hg s1 ⟨⟨⟨fa.blk.lv.own, ?_⟩, ?_⟩, ?_, ?_, ?_, ?_⟩
  · exact Nat.lt_of_lt_of_le fa.blk.lv.lt s0.size
  · have := fa.blk.blk.set_ i v
    rw [hc] at this
    exact this
  · rw [hh]; exact fa.hist.step s0 (by simp)
  · rw [hh]; exact fa.ok
  · exact fa.rlv.step s0 (by simp)
  · rw [hr]
    have h1 := fa.rlv.heap s0 (by simp)
    obtain ⟨xs, n, a, b⟩ := fa.ring
    exact ⟨xs, n, a, h1.trans b⟩
theorem hadd_fn (st : St w g s) {f : Int} {x : Fn} (hx : FM.get s.fns f = some x) (hq : g.ad (.hist f) = q) (t : Int) : Calls Tryz.prog 102 #[vptr q, .int .i64 t] w fun e w' => e = .returned (.tuple #[]) ∧ ToS (fun t => t = .fn f ∨ t = .hist f ∨ t = .ring f) w g s w' { s with fns := FM.put s.fns f { x with hist := x.hist.add t } } := by
  subst hq
  have fa := st.fnAt hx
  obtain ⟨_, _, gx⟩ := st.good.fns f x hx
  refine (Histo.add_any _ t x.hist w fa.hist.blk fa.ok).mono ?_
  rintro e w' ⟨rfl, h1, h2⟩
  have s0 : Step (fun t => t = .hist f) w g w' g := Step.of_grown h2 (fun k e => by cases e; exact fa.hist.lv.own)
  have ho := Ok.add fa.ok t
  refine ⟨rfl, To.fn st hx ⟨gx.acc, gx.mem, gx.cost, gx.keep, gx.often, gx.last, gx.til, ho⟩ (s0.mono fun t ht => .inr (.inl ht)) ⟨fa.blk.step s0 (by simp), ⟨⟨fa.hist.lv.own, h1.lt⟩, h1⟩, ho, fa.rlv.step s0 (by simp), ?_⟩⟩
  have h3 := fa.rlv.heap s0 (by simp)
  obtain ⟨xs, n, a, b⟩ := fa.ring
  exact ⟨xs, n, a, h3.trans b⟩
theorem rpush_fn (st : St w g s) {f : Int} {x : Fn} (hx : FM.get s.fns f = some x) (hq : g.ad (.ring f) = q) (t : Int) : Calls Tryz.prog 103 #[vptr q, .int .i64 t] w fun e w' => e = .returned (.tuple #[]) ∧ ToS (fun t => t = .fn f ∨ t = .hist f ∨ t = .ring f) w g s w' { s with fns := FM.put s.fns f { x with ring := x.ring ++ [t] } } := by
  subst hq
  have fa := st.fnAt hx
  obtain ⟨_, _, gx⟩ := st.good.fns f x hx
  refine (Ring.push_any _ x.ring t w fa.ring).mono ?_
  rintro e w' ⟨rfl, h1, h2⟩
  have s0 : Step (fun t => t = .ring f) w g w' g := Step.of_grown h2 (fun k e => by cases e; exact fa.rlv.own)
  exact ⟨rfl, To.fn st hx ⟨gx.acc, gx.mem, gx.cost, gx.keep, gx.often, gx.last, gx.til, gx.hist⟩ (s0.mono fun t ht => .inr (.inr ht)) ⟨fa.blk.step s0 (by simp), fa.hist.step s0 (by simp), fa.ok, ⟨fa.rlv.own, h1.lt⟩, h1⟩⟩
theorem win_fn (st : St w g s) {f : Int} {x : Fn} (hx : FM.get s.fns f = some x) {a b : Nat} (ha : g.ad (.hist f) = a) (hb : g.ad (.ring f) = b) : Calls Tryz.prog 113 #[vptr a, vptr b] w (Policy.RetW (Policy.win x.hist x.ring) w) := by
  subst ha hb
  have fa := st.fnAt hx
  exact Policy.of_any _ _ x.hist x.ring w fa.hist.blk fa.ok fa.ring

/-! ### maps -/
theorem boxes_del (st : St w g s) (hq : g.ad .boxes = q) {id : Int} (hid : W64 id) (ty : TypeId) : ∃ w', (Builtin.delete_ #[52, 3] ty #[.map (some q), .int .i64 id]).run Tryz.prog w = .ok (.tuple #[]) w' ∧ ToS (fun t => t = .boxes) w g s w' { s with boxes := FM.del s.boxes id } ∧ w'.heap.size = w.heap.size := by
  subst hq
  obtain ⟨ov, m⟩ := st.mem
  obtain ⟨w', h1, h2, h3, h4⟩ := MapI.At.drop (t := 52) m.boxes.map (by kernel_rfl) Tryz.underlying52 hid ty
  have s1 : Step (fun t => t = .boxes) w g w' g := Step.of_grown h3 (fun k e => by cases e; exact m.boxes.lv.own)
  rw [FM.del_vals] at h2
  have hget : ∀ k b, FM.get (FM.del s.boxes id) k = some b → FM.get s.boxes k = some b := fun k b hk => by
    rw [FM.get_del] at hk
    split at hk
    · cases hk
    · exact hk
  refine ⟨w', h1, ToS.mk' (m.turn s1 { s with boxes := FM.del s.boxes id } ov (fun _ _ => rfl) (boxes := .inr ⟨⟨m.boxes.lv.own, Nat.lt_of_lt_of_le m.boxes.lv.lt s1.size⟩, Mp.of h2, fun k b hk => (m.boxes.each k b (hget k b hk)).step s1 (by simp)⟩)) ⟨st.good.now, st.good.next, st.good.toks, st.good.fns, st.good.caches, fun k b hk => st.good.boxes k b (hget k b hk), st.good.til, st.good.ans, by have := st.good.outs; have := FM.length_del s.boxes id; show ((s.out.length + (FM.del s.boxes id).length : Nat) : Int) ≤ 2 * s.next; omega⟩ s1 (by simp) (fun t ht => ht), h4⟩
theorem til_del (st : St w g s) (hq : g.ad .til = q) {id : Int} (hid : W64 id) (ty : TypeId) : ∃ w', (Builtin.delete_ #[53, 3] ty #[.map (some q), .int .i64 id]).run Tryz.prog w = .ok (.tuple #[]) w' ∧ ToS (fun t => t = .til) w g s w' { s with til := FM.del s.til id } ∧ w'.heap.size = w.heap.size := by
  subst hq
  obtain ⟨ov, m⟩ := st.mem
  obtain ⟨w', h1, h2, h3, h4⟩ := MapI.At.drop (t := 53) m.til.map (by kernel_rfl) Tryz.underlying53 hid ty
  have s1 : Step (fun t => t = .til) w g w' g := Step.of_grown h3 (fun k e => by cases e; exact m.til.lv.own)
  rw [FM.del_vals] at h2
  have hget : ∀ k b, FM.get (FM.del s.til id) k = some b → FM.get s.til k = some b := fun k b hk => by
    rw [FM.get_del] at hk
    split at hk
    · cases hk
    · exact hk
  refine ⟨w', h1, ToS.mk' (m.turn s1 { s with til := FM.del s.til id } ov (fun _ _ => rfl) (til := .inr ⟨⟨m.til.lv.own, Nat.lt_of_lt_of_le m.til.lv.lt s1.size⟩, Mp.of h2⟩)) ⟨st.good.now, st.good.next, st.good.toks, st.good.fns, st.good.caches, st.good.boxes, fun k b hk => st.good.til k b (hget k b hk), st.good.ans, st.good.outs⟩ s1 (by simp) (fun t ht => ht), h4⟩
end
end Go.Proofs.YtjmdgicdpggljaaGreat.GH
