/- Plain: room, keep, ahead and tick always come to an end, and keep what is true at all times. -/
import Derived.Test.YtjmdgicdpggljaaGreatM37
import Derived.Test.YtjmdgicdpggljaaGreatM27
import Derived.Test.YtjmdgicdpggljaaGreatM28
set_option linter.all false
namespace Go.Proofs.YtjmdgicdpggljaaGreat.GH
open Go.Proofs.YtjmdgicdpggljaaGreat.Policy (Win win)
set_option linter.unusedVariables false
section
variable {s t u : Core}
abbrev Ok0 (s : Core) : Prop := Inv (fun _ => False) s
/-- A host's cache with a later clock, and fewer in it. -/
theorem Inv.clock {x : Int → Prop} (I : Inv x s) {h : Int} {ck : Nat} (h1 : (s.cache h).clock ≤ ck) (h2 : (ck : Int) + 1000000 * s.boxes.length ≤ 1000000 * s.next) : Inv x (s.setCache h ⟨(s.cache h).items, ck⟩) := by
  refine ⟨I.sb, I.sf, I.nx, I.box, I.fn, I.fq, I.ft, I.tn, I.tk, fun k => ?_, fun k id => ?_, fun k p hp => ?_, fun k => ?_, I.hi⟩
  · rw [cache_setCache]
    split
    · exact I.cn h
    · exact I.cn k
  · rw [cache_setCache]
    split
    · next e => rw [e]; exact I.ck h id
    · exact I.ck k id
  · rw [cache_setCache] at hp ⊢
    by_cases e : k = h
    · rw [if_pos e] at hp ⊢
      obtain ⟨a, b⟩ := I.cm h p hp
      refine ⟨a, Nat.le_trans b ?_⟩
      have := Nat.mul_le_mul_right p.2.den h1
      show (s.cache h).clock * p.2.den + 1000000 ≤ ck * p.2.den + 1000000
      omega
    · rw [if_neg e] at hp ⊢
      exact I.cm k p hp
  · rw [cache_setCache]
    split
    · exact h2
    · exact I.cc k
theorem hdrop_none (lt : Mark → Mark → Bool) {xs : HL Int Mark} {k : Int} (h : ∀ p ∈ xs, p.1 ≠ k) : hdrop lt xs k = xs := by
  unfold hdrop
  rw [hidx_none.2 h]
/-- The one that is worth least goes. -/
theorem Inv.evict (I : Ok0 s) {h : Int} (hne : (s.cache h).items ≠ []) : ∃ b t, FM.get s.boxes (s.cache h).least = some b ∧ b.id = (s.cache h).least ∧ b.host = h ∧ b.loose = true ∧ (s.setCache h (s.cache h).evict).kill b = some t ∧ Ok0 t ∧ Fr s t ∧ t.next = s.next ∧ t.boxes = FM.del s.boxes b.id ∧ t.hosts = s.hosts.give h b.mem := by
  obtain ⟨c, hc⟩ : ∃ c, c = s.cache h := ⟨_, rfl⟩
  have hlen : 0 < c.items.length := by rw [hc]; exact List.length_pos_iff.2 hne
  have hm0 := hkey_mem (xs := c.items) hlen
  rw [hc] at hm0
  obtain ⟨_, b, hb, hh, hl⟩ := (I.ck h _).1 ⟨_, hm0, rfl⟩
  have hid := (I.box _ _ hb).1
  have hls : (s.cache h).least = hkey (s.cache h).items 0 := by unfold Cache.least; rw [if_neg hne]
  obtain ⟨hr, _, _⟩ := loose_still hl
  have hb' : FM.get s.boxes b.id = some b := by rw [hid]; exact hb
  obtain ⟨u, hu, Iu, he⟩ := I.gone hb' (fun _ _ h => h)
  have hcm := I.cm h _ hm0
  obtain ⟨dn, hdn⟩ : ∃ d, d = (hval (s.cache h).items 0).den := ⟨_, rfl⟩
  obtain ⟨nm, hnm⟩ : ∃ d, d = (hval (s.cache h).items 0).num := ⟨_, rfl⟩
  simp only [← hdn, ← hnm] at hcm
  obtain ⟨ck, hck⟩ : ∃ k, k = max (s.cache h).clock (if dn = 0 then 0 else nm / dn) := ⟨_, rfl⟩
  have hev : (s.cache h).evict = ⟨hdrop Mark.lt (s.cache h).items (hkey (s.cache h).items 0), ck⟩ := by
    unfold Cache.evict
    rw [if_neg hne, hck, hdn, hnm]
  have hdiv : nm / dn ≤ (s.cache h).clock + 1000000 := by
    refine Nat.div_le_of_le_mul ?_
    rw [Nat.mul_add, Nat.mul_comm dn]
    have : 1 * 1000000 ≤ dn * 1000000 := Nat.mul_le_mul_right _ hcm.1
    omega
  have hck1 : (s.cache h).clock ≤ ck := by rw [hck]; exact Nat.le_max_left _ _
  have hck2 : ck ≤ (s.cache h).clock + 1000000 := by
    rw [hck]
    refine Nat.max_le.2 ⟨Nat.le_add_right _ _, ?_⟩
    split
    · exact Nat.zero_le _
    · exact hdiv
  have huc : u.cache h = ⟨hdrop Mark.lt (s.cache h).items b.id, (s.cache h).clock⟩ := by
    rw [he.cache, hh, if_pos rfl]; rfl
  have hcc := I.cc h
  have hdl := FM.length_del_there I.sb hb'
  have Ic := Inv.clock (h := h) (ck := ck) Iu (by rw [huc]; exact hck1) (by rw [he.boxes, he.next]; omega)
  rw [huc] at Ic
  simp only at Ic
  have hgo : (s.setCache h (s.cache h).evict).gone b = some { u with caches := FM.put u.caches h (some ⟨hdrop Mark.lt (s.cache h).items b.id, ck⟩) } := by
    have hnr : ¬ b.runs = true := by rw [hr]; simp
    unfold Core.gone at hu ⊢
    simp only at hu ⊢
    rw [if_neg hnr] at hu ⊢
    cases hu
    have e1 : (s.setCache h (s.cache h).evict).cache b.host = (s.cache h).evict := by rw [cache_setCache, hh, if_pos rfl]
    have e2 : (s.cache h).evict.drop b.id = ⟨hdrop Mark.lt (s.cache h).items b.id, ck⟩ := by
      have hid' : b.id = hkey (s.cache h).items 0 := hid
      rw [hev, ← hid']
      show (⟨hdrop Mark.lt (hdrop Mark.lt (s.cache h).items b.id) b.id, ck⟩ : Cache) = _
      rw [hdrop_none Mark.lt (fun p hp => ((hdrop_mem Mark.lt (I.cn h) b.id).2 p |>.1 hp).2)]
    unfold Core.take
    rw [e1, e2, hh]
    unfold Core.setCache
    simp only [put_put]
  refine ⟨b, { u with caches := FM.put u.caches h (some ⟨hdrop Mark.lt (s.cache h).items b.id, ck⟩), out := u.out ++ [⟨false, b.id, b.fn, b.host⟩] }, by rw [hls]; exact hb, by rw [hls]; exact hid, hh, hl, by unfold Core.kill; rw [hgo]; rfl, ?_, ?_, he.next, he.boxes, by rw [← hh]; exact he.hosts⟩
  · exact Ic.of rfl rfl rfl rfl rfl rfl rfl rfl
  · have := he.fr hr
    exact ⟨this.fns, this.quota, this.toks, this.now, this.ans⟩
theorem loose_on (h : Int) (b : Box) : (b.host == h && b.idle && !b.pinned) = (onHost h b && b.loose) := by unfold onHost Box.loose; rw [Bool.and_assoc]
theorem Inv.evicts {h mem : Int} (h0 : 0 ≤ h) (h1 : h < 32) : ∀ (n : Nat) (s : Core), Ok0 s → s.boxes.length < n → s.hosts.up h = true → mem ≤ s.hosts.free h + s.idles h →
    ∃ t, Core.evicts n s h mem = some t ∧ Ok0 t ∧ Fr s t ∧ t.next = s.next ∧ t.hosts.up h = true ∧ mem ≤ t.hosts.free h
  | 0, s, _, hl, _, _ => by omega
  | n + 1, s, I, hl, hu, hm => by
    unfold Core.evicts
    by_cases hf : s.hosts.free h < mem
    · rw [if_pos hf]
      have hpos : 0 < sumIf (fun b => b.host == h && b.idle && !b.pinned) s.boxes := by rw [← idles_eq]; omega
      obtain ⟨y, hy, hyq⟩ := sumIf_pos hpos
      rw [loose_on] at hyq
      simp only [Bool.and_eq_true] at hyq
      have hgy := FM.get_of_mem I.sb (x := y.1) (v := y.2) hy
      obtain ⟨p, hp, _⟩ := (I.ck h y.1).2 ⟨fun h => h, y.2, hgy, by unfold onHost at hyq; simpa using hyq.1, hyq.2⟩
      have hne : (s.cache h).items ≠ [] := fun e => by rw [e] at hp; cases hp
      obtain ⟨b, t, hb, hid, hh, hlo, hk, It, hfr, hnx, hbx, hho⟩ := I.evict hne
      rw [hb]
      simp only
      rw [hk]
      simp only
      have hb' : FM.get s.boxes b.id = some b := by rw [hid]; exact hb
      have hbm := (I.box _ _ hb').2.2.2.2.1
      have hle := sumIf_le (q := onHost h) I.mem_pos (FM.mem_of_get hb') (by unfold onHost; simp [hh])
      have hg := I.hi.gives h0 h1 hbm.1 hle
      obtain ⟨u1, u2⟩ := give_up I.hi.len h0 h1 hu hg
      have hdl := FM.length_del_there I.sb hb'
      have hid2 : t.idles h = s.idles h - b.mem := by
        rw [idles_eq, idles_eq, hbx, sumIf_del I.sb hb', if_pos (by rw [loose_on, hlo]; unfold onHost; simp [hh])]
        omega
      obtain ⟨v, hv, Iv, hfv, hnv, hup, hfree⟩ := Inv.evicts (mem := mem) h0 h1 n t It (by rw [hbx]; omega) (by rw [hho]; exact u1) (by rw [hho, u2, hid2]; omega)
      exact ⟨v, hv, Iv, hfr.trans hfv, hnv.trans hnx, hup, hfree⟩
    · rw [if_neg hf]
      exact ⟨s, rfl, I, Fr.refl s, rfl, hu, by omega⟩
theorem Inv.rooms {mem : Int} (hm : 0 ≤ mem) : ∀ (n : Nat) (s : Core) (h : Int), Ok0 s → 0 ≤ h → h + n ≤ 32 →
    ∃ t r, Core.rooms n s mem h = some (t, r) ∧ Ok0 t ∧ Fr s t ∧ t.next = s.next ∧ (r < 0 ∨ (0 ≤ r ∧ r < 32 ∧ t.hosts.takes r mem = true))
  | 0, s, h, I, _, _ => ⟨s, -1, rfl, I, Fr.refl s, rfl, .inl (by decide)⟩
  | n + 1, s, h, I, h0, h1 => by
    unfold Core.rooms
    by_cases e : s.hosts.up h = false ∨ s.hosts.free h + s.idles h < mem
    · rw [if_pos e]
      exact Inv.rooms hm n s (h + 1) I (by omega) (by omega)
    · rw [if_neg e]
      have hu : s.hosts.up h = true := by
        cases e2 : s.hosts.up h with
        | true => rfl
        | false => exact absurd (.inl e2) e
      have hf : mem ≤ s.hosts.free h + s.idles h := by
        rcases Int.lt_or_le (s.hosts.free h + s.idles h) mem with e2 | e2
        · exact absurd (.inr e2) e
        · exact e2
      obtain ⟨t, ht, It, hfr, hnx, hup, hfree⟩ := Inv.evicts h0 (by omega) (s.boxes.length + 1) s I (by omega) hu hf
      rw [ht]
      refine ⟨t, h, rfl, It, hfr, hnx, .inr ⟨h0, by omega, ?_⟩⟩
      unfold Hosts.takes
      rw [hup, decide_eq_true hm, decide_eq_true hfree]; rfl
theorem Inv.room (I : Ok0 s) {mem : Int} (hm : 0 ≤ mem) : ∃ t r, s.room mem = some (t, r) ∧ Ok0 t ∧ Fr s t ∧ t.next = s.next ∧ (r < 0 ∨ (0 ≤ r ∧ r < 32 ∧ t.hosts.takes r mem = true)) := by
  unfold Core.room
  by_cases e : 0 ≤ s.hosts.fit mem
  · rw [if_pos e]
    exact ⟨s, _, rfl, I, Fr.refl s, rfl, .inr ⟨e, fit_lt _ _, fit_takes e⟩⟩
  · rw [if_neg e]
    exact Inv.rooms hm 32 s 0 I (by omega) (by omega)
theorem Inv.pinBox (I : Ok0 s) {b : Box} (hb : FM.get s.boxes b.id = some b) : Ok0 (s.pinBox b) ∧ Fr s (s.pinBox b) ∧ (s.pinBox b).next = s.next := by
  obtain ⟨I1, hk⟩ := I.take hb (fun _ _ h => h)
  have hlo : ({ b with pinned := true } : Box).loose = false := by unfold Box.loose; simp
  exact ⟨Inv.setBox (b := { b with pinned := true }) (b0 := b) (x' := fun _ => False) I1 hb rfl rfl rfl hk (.inr rfl) (fun i hi => ⟨fun h => h.elim, fun h => hi h⟩) (.inr hlo), ⟨rfl, rfl, rfl, rfl, rfl⟩, rfl⟩
theorem spareOf_get (I : Ok0 s) {f st : Int} {b : Box} (h : s.spareOf f st = some b) : FM.get s.boxes b.id = some b := by
  unfold Core.spareOf at h
  obtain ⟨y, hy, e⟩ := Option.map_eq_some_iff.1 h
  have hm := List.mem_of_find?_eq_some hy
  have hg := FM.get_of_mem I.sb (x := y.1) (v := y.2) hm
  rw [e] at hg
  have := (I.box _ _ hg).1
  rw [this]; exact hg
theorem spare_get (I : Ok0 s) {f : Int} {b : Box} (h : s.spare f = some b) : FM.get s.boxes b.id = some b := by
  unfold Core.spare at h
  split at h
  · next e => cases h; exact spareOf_get I e
  · split at h
    · next e => cases h; exact spareOf_get I e
    · exact spareOf_get I h
theorem Inv.pins {f : Int} {y : Fn} : ∀ (n : Nat) (s : Core), Ok0 s → FM.get s.fns f = some y → s.next + n ≤ 1000000000 → ∃ t, Core.pins f n s = some t ∧ Ok0 t ∧ Fr s t ∧ t.next ≤ s.next + n ∧ s.next ≤ t.next
  | 0, s, I, _, _ => ⟨s, rfl, I, Fr.refl s, by omega, by omega⟩
  | n + 1, s, I, hy, hn => by
    unfold Core.pins
    cases hsp : s.spare f with
    | some b =>
      simp only
      obtain ⟨I1, f1, n1⟩ := I.pinBox (spare_get I hsp)
      obtain ⟨t, ht, It, ft, nt, nt2⟩ := Inv.pins n (s.pinBox b) I1 (by rw [f1.fns]; exact hy) (by rw [n1]; omega)
      exact ⟨t, ht, It, f1.trans ft, by rw [n1] at nt; omega, by rw [n1] at nt2; omega⟩
    | none =>
      simp only
      rw [hy]
      simp only
      have hfb := I.fn _ _ hy
      obtain ⟨t, r, hr, It, ft, nt, hcase⟩ := I.room (mem := y.mem) (by have := hfb.mem; omega)
      rw [hr]
      simp only
      rcases hcase with hr0 | ⟨r0, r1, r2⟩
      · rw [if_pos hr0]
        exact ⟨t, rfl, It, ft, by omega, by omega⟩
      · rw [if_neg (by omega)]
        have hyt : FM.get t.fns f = some y := by rw [ft.fns]; exact hy
        obtain ⟨u, hu, Iu, fu, nu, bu, _⟩ := It.start hyt r0 r1 r2 (by omega)
        rw [hu]
        simp only
        have hbu : FM.get u.boxes (Core.boot f r t.next y.mem t.now).id = some (Core.boot f r t.next y.mem t.now) := by
          rw [bu]
          show FM.get (FM.put t.boxes t.next _) t.next = _
          rw [FM.get_put, if_pos rfl]
        obtain ⟨I1, f1, n1⟩ := Iu.pinBox hbu
        obtain ⟨v, hv, Iv, fv, nv, nv2⟩ := Inv.pins n _ I1 (by rw [f1.fns, fu.fns]; exact hyt) (by rw [n1]; omega)
        exact ⟨v, hv, Iv, ((ft.trans fu).trans f1).trans fv, by rw [n1] at nv; omega, by rw [n1] at nv2; omega⟩
theorem Inv.unpin {f : Int} {y : Fn} : ∀ (l : List Int) (s : Core), Ok0 s → FM.get s.fns f = some y → l.Nodup → (∀ id ∈ l, ∃ b, FM.get s.boxes id = some b ∧ b.pinned = true) → ∃ t, Core.unpin f l s = some t ∧ Ok0 t ∧ Fr s t ∧ t.next = s.next
  | [], s, I, _, _, _ => ⟨s, rfl, I, Fr.refl s, rfl⟩
  | id :: r, s, I, hy, hn, hl => by
    obtain ⟨b, hb, hp⟩ := hl id List.mem_cons_self
    have hn2 := List.nodup_cons.1 hn
    have hid := (I.box _ _ hb).1
    have hb' : FM.get s.boxes b.id = some b := by rw [hid]; exact hb
    have hlo : b.loose = false := by unfold Box.loose; rw [hp]; simp
    have hk := I.no_timer hb' hlo
    have hrest : ∀ (t : Core), (∀ i, i ≠ b.id → FM.get t.boxes i = FM.get s.boxes i) → ∀ i ∈ r, ∃ b, FM.get t.boxes i = some b ∧ b.pinned = true := fun t ht i hi => by
      rw [ht i (by rw [hid]; rintro rfl; exact hn2.1 hi)]
      exact hl i (List.mem_cons_of_mem _ hi)
    have hset : ∀ i, i ≠ b.id → FM.get (s.setBox { b with pinned := false }).boxes i = FM.get s.boxes i := fun i hi => by
      show FM.get (FM.put s.boxes b.id _) i = _
      rw [FM.get_put, if_neg hi]
    unfold Core.unpin
    rw [hb]
    simp only
    by_cases hi : b.idle = true
    · rw [if_pos hi]
      have hw : s.window f = some (win y.hist y.ring) := by unfold Core.window; rw [hy]; rfl
      rw [hw]
      simp only
      have hwb := win_bd y.hist y.ring
      have I1 := Inv.setBox (b := { b with pinned := false }) (b0 := b) (x' := fun i => i = b.id) I hb' rfl rfl rfl hk (.inl hlo) (fun i hi => ⟨fun h => hi h, fun h => h.elim⟩) (.inl rfl)
      obtain ⟨t, ht, It, ft, nt, bt⟩ := I1.idle (b := { b with pinned := false }) (by show FM.get (FM.put s.boxes b.id _) b.id = _; rw [FM.get_put, if_pos rfl]) rfl (fun i hi h => hi h) (by unfold Box.loose; show (b.idle && !false) = true; rw [hi]; rfl) (s.now + (win y.hist y.ring).fin)
      rw [ht]
      simp only
      have hbt := bt (by show s.now < _; omega)
      obtain ⟨u, hu, Iu, fu, nu⟩ := Inv.unpin r t It (by rw [ft.fns]; exact hy) hn2.2 (hrest t (fun i hi => by rw [hbt]; exact hset i hi))
      exact ⟨u, hu, Iu, ⟨fu.fns.trans ft.fns, fu.quota.trans ft.quota, fu.toks.trans ft.toks, fu.now.trans ft.now, fu.ans.trans ft.ans⟩, nu.trans nt⟩
    · rw [if_neg hi]
      have I1 := Inv.setBox (b := { b with pinned := false }) (b0 := b) (x' := fun _ => False) I hb' rfl rfl rfl hk (.inl hlo) (fun i hi => Iff.rfl) (.inr (by unfold Box.loose; show (b.idle && !false) = false; simpa using hi))
      obtain ⟨u, hu, Iu, fu, nu⟩ := Inv.unpin r _ I1 hy hn2.2 (hrest _ hset)
      exact ⟨u, hu, Iu, ⟨fu.fns, fu.quota, fu.toks, fu.now, fu.ans⟩, nu⟩
theorem where_get (I : Ok0 s) {p : Box → Bool} : (s.where_ p).Nodup ∧ ∀ id ∈ s.where_ p, ∃ b, FM.get s.boxes id = some b ∧ b.id = id ∧ p b = true := by
  unfold Core.where_
  constructor
  · unfold List.Nodup
    rw [List.pairwise_map]
    refine List.Pairwise.filter _ ?_
    refine List.Pairwise.imp ?_ I.sb
    intro a b h
    omega
  · intro id hid
    obtain ⟨y, hy, rfl⟩ := List.mem_map.1 hid
    obtain ⟨h1, h2⟩ := List.mem_filter.1 hy
    have hg := FM.get_of_mem I.sb (x := y.1) (v := y.2) h1
    exact ⟨y.2, hg, (I.box _ _ hg).1, h2⟩
theorem Inv.keep (I : Ok0 s) {f : Int} (hf : (FM.get s.fns f).isSome = true) (hn : s.next + 1000 ≤ 1000000000) : ∃ t, s.keep f = some t ∧ Ok0 t ∧ Fr s t ∧ t.next ≤ s.next + 1000 ∧ s.next ≤ t.next := by
  cases hy : FM.get s.fns f with
  | none => rw [hy] at hf; cases hf
  | some y =>
    have hfb := I.fn _ _ hy
    obtain ⟨w1, w2⟩ := where_get I (p := fun b => b.fn == f && b.pinned)
    unfold Core.keep
    rw [hy]
    simp only
    obtain ⟨t, ht, It, ft, nt⟩ := Inv.unpin ((s.pinned f).drop y.keep.toNat).reverse s I hy (by
        unfold List.Nodup
        rw [List.pairwise_reverse]
        exact (List.Pairwise.drop w1).imp fun {a b} h e => h e.symm) (fun id hid => by
      have h1 := List.mem_of_mem_drop (List.mem_reverse.1 hid)
      obtain ⟨b, hb, _, hq⟩ := w2 id h1
      simp only [Bool.and_eq_true] at hq
      exact ⟨b, hb, hq.2⟩)
    rw [ht]
    simp only
    obtain ⟨u, hu, Iu, fu, nu, nu2⟩ := Inv.pins (y.keep.toNat - (t.pinned f).length) t It (by rw [ft.fns]; exact hy) (by have := hfb.keep; omega)
    exact ⟨u, hu, Iu, ft.trans fu, by have := hfb.keep; omega, by omega⟩
theorem Inv.keeps : ∀ (l : List Int) (s : Core), Ok0 s → (∀ f ∈ l, (FM.get s.fns f).isSome = true) → s.next + 1000 * l.length ≤ 1000000000 → ∃ t, Core.keeps l s = some t ∧ Ok0 t ∧ Fr s t ∧ t.next ≤ s.next + 1000 * l.length ∧ s.next ≤ t.next
  | [], s, I, _, _ => ⟨s, rfl, I, Fr.refl s, by simp, by omega⟩
  | f :: r, s, I, hl, hn => by
    rw [List.length_cons] at hn
    obtain ⟨t, ht, It, ft, nt, nt2⟩ := I.keep (hl f List.mem_cons_self) (by omega)
    obtain ⟨u, hu, Iu, fu, nu, nu2⟩ := Inv.keeps r t It (fun g hg => by rw [ft.fns]; exact hl g (List.mem_cons_of_mem _ hg)) (by omega)
    unfold Core.keeps
    rw [ht]
    exact ⟨u, hu, Iu, ft.trans fu, by rw [List.length_cons]; omega, by omega⟩
theorem Inv.fns_len {x : Int → Prop} (I : Inv x s) : s.fns.length ≤ 64 := FM.length_le I.sf fun p hp => (I.fn p.1 p.2 (FM.get_of_mem I.sf hp)).f
theorem Inv.keepAll (I : Ok0 s) (hn : s.next + 64000 ≤ 1000000000) : ∃ t, s.keepAll = some t ∧ Ok0 t ∧ Fr s t ∧ t.next ≤ s.next + 64000 ∧ s.next ≤ t.next := by
  unfold Core.keepAll
  have hl := I.fns_len
  have hkl : (FM.keys s.fns).length = s.fns.length := by unfold FM.keys; rw [List.length_map]
  obtain ⟨t, ht, It, ft, nt, nt2⟩ := Inv.keeps (FM.keys s.fns) s I (fun f hf => by
    unfold FM.keys at hf
    obtain ⟨p, hp, rfl⟩ := List.mem_map.1 hf
    rw [FM.get_of_mem I.sf (x := p.1) (v := p.2) hp]; rfl) (by omega)
  exact ⟨t, ht, It, ft, by omega, nt2⟩
theorem Inv.til {x : Int → Prop} (I : Inv x s) (l : FM Int) : Inv x { s with til := l } := I.of rfl rfl rfl rfl rfl rfl rfl rfl
theorem Inv.ahead (I : Ok0 s) {f : Int} (hf : (FM.get s.fns f).isSome = true) (hn : s.next + 1 ≤ 1000000000) : ∃ t, s.ahead f = some t ∧ Ok0 t ∧ Fr s t ∧ t.next ≤ s.next + 1 ∧ s.next ≤ t.next ∧ t.timers = s.timers := by
  cases hy : FM.get s.fns f with
  | none => rw [hy] at hf; cases hf
  | some y =>
    unfold Core.ahead
    rw [hy]
    simp only
    by_cases e : (s.where_ fun b => b.fn == f) ≠ [] ∨ s.hosts.fit y.mem < 0
    · rw [if_pos e]
      exact ⟨s, rfl, I, Fr.refl s, by omega, by omega, rfl⟩
    · rw [if_neg e]
      have hfit : 0 ≤ s.hosts.fit y.mem := by
        rcases Int.lt_or_le (s.hosts.fit y.mem) 0 with h | h
        · exact absurd (.inr h) e
        · exact h
      obtain ⟨t, ht, It, ft, nt, bt, tt, _⟩ := I.start hy hfit (fit_lt _ _) (fit_takes hfit) hn
      rw [ht]
      simp only
      have hyt : FM.get t.fns f = some y := by rw [ft.fns]; exact hy
      rw [hyt]
      exact ⟨_, rfl, It.til _, ⟨ft.fns, ft.quota, ft.toks, ft.now, ft.ans⟩, by show t.next ≤ _; omega, by show s.next ≤ t.next; omega, tt⟩
/-- How many boots ahead are set. -/
def ones (t : Timers) : Nat := (t.filter fun p => p.1.kind != 0).length
theorem due_mem {t : Timers} {now : Int} {k : TKey} (h : t.due now = some k) : 0 < t.length ∧ k = hkey t 0 := by
  unfold Timers.due at h
  split at h
  · cases h
  · next e =>
    cases h
    exact ⟨List.length_pos_iff.2 (fun e2 => e (.inl e2)), rfl⟩
theorem Inv.due : ∀ (n : Nat) (s : Core), Ok0 s → s.timers.length < n → s.next + ones s.timers ≤ 1000000000 → ∃ t, Core.due n s = some t ∧ Ok0 t ∧ Fr s t ∧ t.next ≤ s.next + ones s.timers ∧ s.next ≤ t.next
  | 0, s, _, hl, _ => by omega
  | n + 1, s, I, hl, hn => by
    unfold Core.due
    cases hd : s.timers.due s.now with
    | none =>
      simp only
      exact ⟨s, rfl, I, Fr.refl s, by omega, by omega⟩
    | some k =>
      simp only
      obtain ⟨hlen, hk⟩ := due_mem hd
      have hix : hidx s.timers k = some 0 := (hidx_some I.tn).2 ⟨hlen, hk.symm⟩
      have hp := hdrop_perm TMark.lt I.tn hix
      have hmem : (k, hval s.timers 0) ∈ s.timers := hp.mem_iff.1 (by simp)
      have htl : (s.timers.drop k).length + 1 = s.timers.length := by
        have := hp.length_eq
        rw [List.length_append] at this
        exact this
      have hon : ones (s.timers.drop k) + (if k.kind = 0 then 0 else 1) = ones s.timers := by
        have := (hp.filter fun p => p.1.kind != 0).length_eq
        rw [List.filter_append, List.length_append] at this
        unfold ones
        rw [← this]
        show _ = (List.filter _ (hdrop TMark.lt s.timers k)).length + _
        congr 1
        by_cases e : k.kind = 0
        · simp [e]
        · simp [e]
      have I1 := I.tdrop k
      by_cases e : k.kind = 0
      · rw [if_pos e]
        rw [if_pos e] at hon
        rcases I.tk _ hmem with ⟨_, b, hb, hlo⟩ | ⟨h1, _⟩
        · have hb1 : FM.get ({ s with timers := s.timers.drop k } : Core).boxes k.id = some b := hb
          rw [hb1]
          simp only
          have hid := (I.box _ _ hb).1
          obtain ⟨u, hu, hkl, Iu, he⟩ := I1.kill (b := b) (by rw [hid]; exact hb) (fun _ _ h => h)
          rw [hkl]
          simp only
          have hl2 := he.tlen (fun _ => true)
          rw [List.filter_eq_self.2 (fun _ _ => rfl), List.filter_eq_self.2 (fun _ _ => rfl)] at hl2
          have hl3 : ones u.timers ≤ ones (s.timers.drop k) := he.tlen _
          have hl2 : u.timers.length ≤ (s.timers.drop k).length := hl2
          have hfr := he.fr (loose_still hlo).1
          have hnu : u.next = s.next := he.next
          obtain ⟨t, ht, It, ft, nt, nt2⟩ := Inv.due n _ (Iu.out (u.out ++ [⟨false, b.id, b.fn, b.host⟩])) (by show u.timers.length < n; omega) (by show u.next + ones u.timers ≤ _; omega)
          have nt : t.next ≤ u.next + ones u.timers := nt
          have nt2 : u.next ≤ t.next := nt2
          exact ⟨t, ht, It, ⟨ft.fns.trans hfr.fns, ft.quota.trans hfr.quota, ft.toks.trans hfr.toks, ft.now.trans hfr.now, ft.ans.trans hfr.ans⟩, by omega, by omega⟩
        · exact absurd (show k.kind = 1 from h1) (by omega)
      · rw [if_neg e]
        rw [if_neg e] at hon
        rcases I.tk _ hmem with ⟨h1, _⟩ | ⟨_, h2⟩
        · exact absurd h1 e
        · obtain ⟨u, hu, Iu, fu, nu, nu2, tu⟩ := I1.ahead (f := k.id) h2 (by show s.next + 1 ≤ _; omega)
          rw [hu]
          simp only
          have nu : u.next ≤ s.next + 1 := nu
          have nu2 : s.next ≤ u.next := nu2
          have tu : u.timers = s.timers.drop k := tu
          obtain ⟨t, ht, It, ft, nt, nt2⟩ := Inv.due n u Iu (by rw [tu]; omega) (by rw [tu]; omega)
          rw [tu] at nt
          exact ⟨t, ht, It, ⟨ft.fns.trans fu.fns, ft.quota.trans fu.quota, ft.toks.trans fu.toks, ft.now.trans fu.now, ft.ans.trans fu.ans⟩, by omega, by omega⟩
theorem Inv.ones_len {x : Int → Prop} (I : Inv x s) : ones s.timers ≤ 64 := by
  unfold ones
  have hnd : ((s.timers.filter fun p => p.1.kind != 0).map (·.1.id)).Nodup := by
    unfold List.Nodup
    rw [List.pairwise_map]
    have h1 : s.timers.Pairwise fun p q => p.1 ≠ q.1 := List.pairwise_map.1 I.tn
    refine List.Pairwise.imp_of_mem ?_ (h1.filter _)
    intro p q hp hq hne e
    obtain ⟨p1, p2⟩ := List.mem_filter.1 hp
    obtain ⟨q1, q2⟩ := List.mem_filter.1 hq
    have hp3 : p.1.kind = 1 := by
      rcases I.tk p p1 with ⟨h, _⟩ | ⟨h, _⟩
      · simp [h] at p2
      · exact h
    have hq3 : q.1.kind = 1 := by
      rcases I.tk q q1 with ⟨h, _⟩ | ⟨h, _⟩
      · simp [h] at q2
      · exact h
    refine hne ?_
    obtain ⟨⟨a, b⟩, c⟩ := p
    obtain ⟨⟨d, f⟩, g⟩ := q
    simp only at hp3 hq3 e
    rw [hp3, hq3, e]
  have := nodup_len 64 _ hnd fun y hy => by
    obtain ⟨p, hp, rfl⟩ := List.mem_map.1 hy
    obtain ⟨p1, p2⟩ := List.mem_filter.1 hp
    rcases I.tk p p1 with ⟨h, _⟩ | ⟨_, h⟩
    · simp [h] at p2
    · cases hy2 : FM.get s.fns p.1.id with
      | none => rw [hy2] at h; cases h
      | some z => exact (I.fn _ _ hy2).f
  rw [List.length_map] at this
  exact this
end
end Go.Proofs.YtjmdgicdpggljaaGreat.GH

/- Plain: whatever happens, the core comes to an end with it, and what is true at all times stays so. -/
namespace Go.Proofs.YtjmdgicdpggljaaGreat.GH
open Go.Proofs.YtjmdgicdpggljaaGreat.Policy (Win win)
set_option linter.unusedVariables false
open Go.Proofs.YtjmdgicdpggljaaGreat.Event (Ev Ans offs inR)
section
variable {x x' : Int → Prop} {s t u : Core}
/-- What happens leaves: no more than so many are booted. -/
structure Does (s t : Core) : Prop where
  ok : Ok0 t
  hi : t.next ≤ s.next + 65000
  lo : s.next ≤ t.next
  ans : t.ans = s.ans
theorem Inv.toks (I : Inv x s) {l : FM Bkt} (h : ∀ a, (FM.get s.toks a).isSome = true → (FM.get l a).isSome = true) : Inv x { s with toks := l } :=
  ⟨I.sb, I.sf, I.nx, I.box, I.fn, I.fq, fun f y hy => h _ (I.ft f y hy), I.tn, I.tk, I.cn, I.ck, I.cm, I.cc, I.hi⟩
theorem get_map {α : Type} (g : α → α) (l : FM α) (k : Int) : FM.get (l.map fun p => (p.1, g p.2)) k = (FM.get l k).map g := by
  induction l with
  | nil => rfl
  | cons p r ih =>
    rw [List.map_cons, FM.get_cons, FM.get_cons]
    by_cases e : p.1 = k
    · rw [if_pos e, if_pos e]; rfl
    · rw [if_neg e, if_neg e, ih]
theorem Inv.now (I : Inv x s) (n : Int) : Inv x { s with now := n } := I.of rfl rfl rfl rfl rfl rfl rfl rfl
theorem does_tick (I : Ok0 s) (hn : s.next + 65000 ≤ 1000000000) : ∃ t, s.tick = some t ∧ Does s t := by
  unfold Core.tick
  by_cases hm : s.now = 1099511627776
  · rw [if_pos hm]
    exact ⟨s, rfl, I, by omega, by omega, rfl⟩
  · rw [if_neg hm]
    have ho := I.ones_len
    have I1 : Ok0 { s with now := s.now + 1, toks := s.toks.map fun p => (p.1, p.2.tick) } := (I.now (s.now + 1)).toks (l := s.toks.map fun p => (p.1, p.2.tick)) (fun a ha => by
      rw [get_map]
      cases e : FM.get s.toks a with
      | none => have ha2 : (FM.get s.toks a).isSome = true := ha; rw [e] at ha2; cases ha2
      | some k => rfl)
    obtain ⟨t, ht, It, ft, nt, nt2⟩ := Inv.due (s.timers.length + 1) _ I1 (Nat.lt_succ_self _) (by show s.next + ones s.timers ≤ _; omega)
    have nt : t.next ≤ s.next + ones s.timers := nt
    have nt2 : s.next ≤ t.next := nt2
    rw [ht]
    simp only
    obtain ⟨v, hv, Iv, fv, nv, nv2⟩ := It.keepAll (by omega)
    exact ⟨v, hv, Iv, by omega, by omega, fv.ans.trans ft.ans⟩
theorem does_account (I : Ok0 s) (e : Ev) : Does s (s.account e).2 := by
  unfold Core.account
  split
  · exact ⟨I, by show s.next ≤ _; omega, Int.le_refl _, rfl⟩
  · split
    · exact ⟨I, by show s.next ≤ _; omega, Int.le_refl _, rfl⟩
    · refine ⟨?_, by show s.next ≤ _; omega, Int.le_refl _, rfl⟩
      have I1 : Ok0 { s with quota := (s.quota.setAccount e.n e.limit).2 } := I.quota fun f hf => I.fq f (by
        have : ((s.quota.setAccount e.n e.limit).2).known f = s.quota.known f := by
          unfold Quota.setAccount
          split
          · rfl
          · split <;> rfl
        rw [this] at hf
        exact hf)
      refine I1.toks fun a ha => ?_
      cases FM.get s.toks e.n with
      | none => simp only; rw [FM.get_put]; split; rfl; exact ha
      | some b => simp only; rw [FM.get_put]; split; rfl; exact ha
theorem setFunc_facts {q : Quota} {k a r : Int} (h : (q.setFunc k a r).1 = 0) : (0 ≤ k ∧ k < 64) ∧ (0 ≤ a ∧ a < 16) ∧ ∀ f, ((q.setFunc k a r).2).known f = true → f = k ∨ q.known f = true := by
  unfold Quota.setFunc at h ⊢
  by_cases e1 : k < 0 ∨ 64 ≤ k ∨ a < 0 ∨ 16 ≤ a ∨ r < 0 ∨ 1000 < r
  · rw [if_pos e1] at h; cases h
  rw [if_neg e1] at h ⊢
  by_cases e2 : (q.a a).there = false
  · rw [if_pos e2] at h; cases h
  rw [if_neg e2] at h ⊢
  by_cases e3 : (q.f k).there = true ∧ (q.f k).acc ≠ a
  · rw [if_pos e3] at h; cases h
  rw [if_neg e3] at h ⊢
  by_cases e4 : (q.a a).lim < q.res a - (q.f k).res + r
  · rw [if_pos e4] at h; cases h
  rw [if_neg e4] at h ⊢
  refine ⟨⟨by omega, by omega⟩, ⟨by omega, by omega⟩, fun f hf => ?_⟩
  by_cases e : f = k
  · exact .inl e
  · refine .inr ?_
    unfold Quota.known Quota.f at hf ⊢
    simp only [Bool.and_eq_true, decide_eq_true_eq] at hf ⊢
    obtain ⟨hr, ht⟩ := hf
    refine ⟨hr, ?_⟩
    simp only [List.getD_eq_getElem?_getD, List.getElem?_set] at ht
    rw [if_neg (by omega)] at ht
    rw [List.getD_eq_getElem?_getD]
    exact ht
theorem does_function (I : Ok0 s) (hn : s.next + 65000 ≤ 1000000000) (e : Ev) (hk : 0 ≤ e.keep) : ∃ r t, s.function e = some (r, t) ∧ Does s t := by
  have D0 : Does s s := ⟨I, by omega, by omega, rfl⟩
  obtain ⟨k, n, lim, sz, rf, ac, me, co, re, ke⟩ := e
  simp only at hk
  unfold Core.function
  obtain ⟨F, hF⟩ : ∃ F, F = s.function1 ⟨k, n, lim, sz, rf, ac, me, co, re, ke⟩ := ⟨_, rfl⟩
  rw [← hF]
  unfold Core.function1 at hF
  simp only at hF
  by_cases c1 : 64 ≤ n ∨ 16 ≤ ac ∨ 1000 < re ∨ 1000 < ke ∨ me < 1 ∨ 4096 < me ∨ co < 1 ∨ 1000 < co
  · rw [if_pos c1] at hF; rw [hF]; exact ⟨1, s, rfl, D0⟩
  rw [if_neg c1] at hF
  by_cases c2 : (FM.get s.toks ac).isSome = false
  · rw [if_pos c2] at hF; rw [hF]; exact ⟨2, s, rfl, D0⟩
  rw [if_neg c2] at hF
  have c2' : (FM.get s.toks ac).isSome = true := by
    cases e : (FM.get s.toks ac).isSome with
    | true => rfl
    | false => exact absurd e c2
  obtain ⟨ms, hms⟩ : ∃ b : Bool, b = (match FM.get s.fns n with | some x => x.acc != ac || x.mem != me | none => false) := ⟨_, rfl⟩
  have hF2 : F = if ms = true then (3, s) else if 0 < re ∧ re < ke then (4, s) else if (s.quota.setFunc n ac re).1 ≠ 0 then ((s.quota.setFunc n ac re).1, s) else (0, { s with quota := (s.quota.setFunc n ac re).2, fns := match FM.get s.fns n with
    | some x => FM.put s.fns n { x with cost := co, keep := ke }
    | none => FM.put s.fns n ⟨ac, me, co, ke, 0, -1, 0, Histo.S.empty, []⟩ }) := by rw [hms]; exact hF
  clear hF
  by_cases c3 : ms = true
  · rw [if_pos c3] at hF2; rw [hF2]; exact ⟨3, s, rfl, D0⟩
  rw [if_neg c3] at hF2
  by_cases c4 : 0 < re ∧ re < ke
  · rw [if_pos c4] at hF2; rw [hF2]; exact ⟨4, s, rfl, D0⟩
  rw [if_neg c4] at hF2
  by_cases c5 : (s.quota.setFunc n ac re).1 ≠ 0
  · rw [if_pos c5] at hF2; rw [hF2, if_pos (show ((s.quota.setFunc n ac re).1, s).1 ≠ 0 from c5)]; exact ⟨_, s, rfl, D0⟩
  rw [if_neg c5] at hF2
  have c5' : (s.quota.setFunc n ac re).1 = 0 := by simpa using c5
  obtain ⟨kr, ar, hkn⟩ := setFunc_facts c5'
  rw [hF2, if_neg (by simp)]
  simp only
  obtain ⟨y, hy, hfb, hac⟩ : ∃ y : Fn, (match FM.get s.fns n with
      | some x => FM.put s.fns n { x with cost := co, keep := ke }
      | none => FM.put s.fns n ⟨ac, me, co, ke, 0, -1, 0, Histo.S.empty, []⟩) = FM.put s.fns n y ∧ FnB n y ∧ (FM.get s.toks y.acc).isSome = true := by
    cases hx : FM.get s.fns n with
    | none => exact ⟨_, rfl, ⟨kr, by show 1 ≤ me ∧ me ≤ 4096; omega, by show 1 ≤ co ∧ co ≤ 1000; omega, by simp, by show 0 ≤ ke ∧ ke ≤ 1000; omega⟩, c2'⟩
    | some z =>
      have hz := I.fn _ _ hx
      exact ⟨_, rfl, ⟨kr, hz.mem, by show 1 ≤ co ∧ co ≤ 1000; omega, hz.often, by show 0 ≤ ke ∧ ke ≤ 1000; omega⟩, show (FM.get s.toks z.acc).isSome = true from I.ft _ _ hx⟩
  rw [hy]
  have I1 : Ok0 { s with quota := (s.quota.setFunc n ac re).2, fns := FM.put s.fns n y } := (I.fnput hfb hac).quota (q := (s.quota.setFunc n ac re).2) (fun f hf => by
    show (FM.get (FM.put s.fns n y) f).isSome = true
    rw [FM.get_put]
    split
    · rfl
    · next e =>
      rcases hkn f hf with h | h
      · exact absurd h e
      · exact I.fq f h)
  obtain ⟨t, ht, It, ft, nt, nt2⟩ := I1.keep (f := n) (by show (FM.get (FM.put s.fns n y) n).isSome = true; rw [FM.get_put, if_pos rfl]; rfl) (by show s.next + 1000 ≤ _; omega)
  have nt : t.next ≤ s.next + 1000 := nt
  have nt2 : s.next ≤ t.next := nt2
  rw [ht]
  exact ⟨0, t, rfl, It, by omega, nt2, ft.ans⟩
theorem HI.drain {hs : Hosts} {v : Int → Int} (H : HI hs v) {h : Int} (h0 : 0 ≤ h) (h1 : h < 32) (ht : (hs.at_ h).there = true) : HI ((hs.put h { hs.at_ h with drain := true }).sweep h) v := by
  refine HI.sweep ?_ h0 h1
  refine (H.put h0 h1 { hs.at_ h with drain := true } (fun e => by rw [ht] at e; cases e)).congr fun k k0 k1 => ?_
  show v k = if k = h then (hs.at_ h).used else v k
  split
  · next e => rw [e, H.used h h0 h1]
  · rfl
theorem Inv.hosts (I : Inv x s) {hs : Hosts} (H : HI hs (fun h => sumIf (onHost h) s.boxes)) : Inv x { s with hosts := hs } :=
  ⟨I.sb, I.sf, I.nx, I.box, I.fn, I.fq, I.ft, I.tn, I.tk, I.cn, I.ck, I.cm, I.cc, H⟩
theorem runs_not_loose {b : Box} (h : b.runs = true) : b.loose = false ∧ ({ b with pinned := false } : Box).loose = false := by
  unfold Box.runs at h
  unfold Box.loose Box.idle
  simp only [Bool.or_eq_true, Bool.and_eq_true, beq_iff_eq] at h
  rcases h with h | ⟨h, _⟩ <;> simp [h]
theorem Inv.drains : ∀ (l : List Int) (s : Core), Ok0 s → l.Nodup → (∀ id ∈ l, (FM.get s.boxes id).isSome = true) → ∃ t, Core.drains l s = some t ∧ Ok0 t ∧ Fr s t ∧ t.next = s.next
  | [], s, I, _, _ => ⟨s, rfl, I, Fr.refl s, rfl⟩
  | id :: r, s, I, hn, hl => by
    have hn2 := List.nodup_cons.1 hn
    have h1 := hl id List.mem_cons_self
    cases hb : FM.get s.boxes id with
    | none => rw [hb] at h1; cases h1
    | some b =>
      have hid := (I.box _ _ hb).1
      have hb' : FM.get s.boxes b.id = some b := by rw [hid]; exact hb
      unfold Core.drains
      rw [hb]
      simp only
      by_cases hr : b.runs = true
      · rw [if_pos hr]
        obtain ⟨l1, l2⟩ := runs_not_loose hr
        have I1 := Inv.setBox (b := { b with pinned := false }) (b0 := b) (x' := fun _ => False) I hb' rfl rfl rfl (I.no_timer hb' l1) (.inl l1) (fun i hi => Iff.rfl) (.inr l2)
        obtain ⟨t, ht, It, ft, nt⟩ := Inv.drains r _ I1 hn2.2 (fun i hi => by
          show (FM.get (FM.put s.boxes b.id _) i).isSome = true
          rw [FM.get_put]; split
          · rfl
          · exact hl i (List.mem_cons_of_mem _ hi))
        exact ⟨t, ht, It, ⟨ft.fns, ft.quota, ft.toks, ft.now, ft.ans⟩, nt⟩
      · rw [if_neg hr]
        obtain ⟨v, hv, hk, Iv, he⟩ := I.kill hb' (fun _ _ h => h)
        rw [hk]
        simp only
        have hfr := he.fr (by simpa using hr)
        obtain ⟨t, ht, It, ft, nt⟩ := Inv.drains r _ (Iv.out (v.out ++ [⟨false, b.id, b.fn, b.host⟩])) hn2.2 (fun i hi => by
          show (FM.get v.boxes i).isSome = true
          rw [he.boxes, FM.get_del, if_neg (by rw [hid]; rintro rfl; exact hn2.1 hi)]
          exact hl i (List.mem_cons_of_mem _ hi))
        exact ⟨t, ht, It, ⟨ft.fns.trans hfr.fns, ft.quota.trans hfr.quota, ft.toks.trans hfr.toks, ft.now.trans hfr.now, ft.ans.trans hfr.ans⟩, nt.trans he.next⟩
theorem does_drain (I : Ok0 s) (hn : s.next + 65000 ≤ 1000000000) (h : Int) : ∃ r t, s.drain h = some (r, t) ∧ Does s t := by
  unfold Core.drain
  by_cases hd : (s.hosts.drain h).1 ≠ 0
  · rw [if_pos hd]
    exact ⟨_, s, rfl, I, by omega, by omega, rfl⟩
  · rw [if_neg hd]
    have H : HI (s.hosts.drain h).2 (fun h => sumIf (onHost h) s.boxes) := by
      unfold Hosts.drain at hd ⊢
      by_cases e1 : s.hosts.there h = false
      · rw [if_pos e1] at hd; exact absurd (by show (2 : Int) ≠ 0; decide) hd
      · rw [if_neg e1] at hd ⊢
        by_cases e2 : (s.hosts.at_ h).drain = true
        · rw [if_pos e2] at hd; exact absurd (by show (3 : Int) ≠ 0; decide) hd
        · rw [if_neg e2]
          have e3 : s.hosts.there h = true := by simpa using e1
          unfold Hosts.there Hosts.ok at e3
          simp only [Bool.and_eq_true, decide_eq_true_eq] at e3
          exact I.hi.drain e3.1.1 e3.1.2 e3.2
    have I1 := I.hosts H
    obtain ⟨w1, w2⟩ := where_get I (p := fun b => b.host == h)
    obtain ⟨t, ht, It, ft, nt⟩ := Inv.drains (s.on h) _ I1 w1 (fun id hid => by
      obtain ⟨b, hb, _⟩ := w2 id hid
      show (FM.get s.boxes id).isSome = true
      rw [hb]; rfl)
    rw [ht]
    simp only
    have nt : t.next = s.next := nt
    obtain ⟨v, hv, Iv, fv, nv, nv2⟩ := It.keepAll (by omega)
    rw [hv]
    exact ⟨0, v, rfl, Iv, by omega, by omega, fv.ans.trans ft.ans⟩
theorem Inv.fails : ∀ (l : List Int) (s : Core), Ok0 s → l.Nodup → (∀ id ∈ l, (FM.get s.boxes id).isSome = true) → ∃ t, Core.fails l s = some t ∧ Ok0 t ∧ t.next = s.next ∧ t.ans = s.ans ∧ ∀ i, FM.get t.boxes i = if i ∈ l then none else FM.get s.boxes i
  | [], s, I, _, _ => ⟨s, rfl, I, rfl, rfl, fun i => by simp⟩
  | id :: r, s, I, hn, hl => by
    have hn2 := List.nodup_cons.1 hn
    have h1 := hl id List.mem_cons_self
    cases hb : FM.get s.boxes id with
    | none => rw [hb] at h1; cases h1
    | some b =>
      have hid := (I.box _ _ hb).1
      have hb' : FM.get s.boxes b.id = some b := by rw [hid]; exact hb
      unfold Core.fails
      rw [hb]
      simp only
      obtain ⟨v, hv, Iv, he⟩ := I.gone hb' (fun _ _ h => h)
      rw [hv]
      simp only
      have hg : ∀ i, FM.get v.boxes i = if i = id then none else FM.get s.boxes i := fun i => by rw [he.boxes, FM.get_del, hid]
      obtain ⟨t, ht, It, nt, at_, gt⟩ := Inv.fails r v Iv hn2.2 (fun i hi => by
        rw [hg, if_neg (by rintro rfl; exact hn2.1 hi)]
        exact hl i (List.mem_cons_of_mem _ hi))
      refine ⟨t, ht, It, nt.trans he.next, at_.trans he.ans, fun i => ?_⟩
      rw [gt, hg]
      by_cases e : i = id
      · subst e; simp
      · by_cases e2 : i ∈ r
        · simp [e2]
        · simp [e, e2]
theorem where_mem (I : Ok0 s) {p : Box → Bool} {id : Int} {b : Box} (hb : FM.get s.boxes id = some b) (hp : p b = true) : id ∈ s.where_ p := by
  unfold Core.where_
  exact List.mem_map.2 ⟨(id, b), List.mem_filter.2 ⟨FM.mem_of_get hb, hp⟩, rfl⟩
/-- Where no memory is used nothing is. -/
theorem Inv.none_on (I : Inv x s) {h : Int} (hz : sumIf (onHost h) s.boxes = 0) {id : Int} {b : Box} (hb : FM.get s.boxes id = some b) : b.host ≠ h := fun e => by
  have h1 := (I.box _ _ hb).2.2.2.2.1
  have h2 := sumIf_le (q := onHost h) I.mem_pos (FM.mem_of_get hb) (by unfold onHost; simp [e])
  have h3 : ((id, b) : Int × Box).2.mem = b.mem := rfl
  omega
theorem does_fail (I : Ok0 s) (hn : s.next + 65000 ≤ 1000000000) (h : Int) : ∃ r t, s.fail h = some (r, t) ∧ Does s t := by
  unfold Core.fail
  by_cases hd : s.hosts.there h = false
  · rw [if_pos hd]
    exact ⟨_, s, rfl, I, by omega, by omega, rfl⟩
  · rw [if_neg hd]
    have e3 : s.hosts.there h = true := by simpa using hd
    unfold Hosts.there Hosts.ok at e3
    simp only [Bool.and_eq_true, decide_eq_true_eq] at e3
    obtain ⟨⟨h0, h1⟩, _⟩ := e3
    obtain ⟨w1, w2⟩ := where_get I (p := fun b => b.host == h)
    obtain ⟨t, ht, It, nt, at_, gt⟩ := Inv.fails (s.on h) s I w1 (fun id hid => by
      obtain ⟨b, hb, _⟩ := w2 id hid
      rw [hb]; rfl)
    rw [ht]
    simp only
    have hz : sumIf (onHost h) t.boxes = 0 := by
      have h2 := sumIf_nonneg (q := onHost h) It.mem_pos
      rcases Int.lt_or_le 0 (sumIf (onHost h) t.boxes) with h3 | h3
      · obtain ⟨y, hy, hq⟩ := sumIf_pos h3
        have hgy := FM.get_of_mem It.sb (x := y.1) (v := y.2) hy
        rw [gt] at hgy
        split at hgy
        · cases hgy
        · next e => exact absurd (where_mem I hgy hq) e
      · omega
    have H : HI (t.hosts.fail h) (fun h => sumIf (onHost h) t.boxes) := by
      unfold Hosts.fail
      split
      · exact It.hi
      · refine (It.hi.put h0 h1 Mach.none (fun _ => rfl)).congr fun k k0 k1 => ?_
        show sumIf (onHost k) t.boxes = if k = h then (0 : Int) else sumIf (onHost k) t.boxes
        split
        · next e => rw [e, hz]
        · rfl
    obtain ⟨v, hv, Iv, fv, nv, nv2⟩ := (It.hosts H).keepAll (by show t.next + 64000 ≤ _; omega)
    rw [hv]
    have nv : v.next ≤ t.next + 64000 := nv
    have nv2 : t.next ≤ v.next := nv2
    exact ⟨0, v, rfl, Iv, by omega, by omega, fv.ans.trans at_⟩
theorem does_host (I : Ok0 s) (hn : s.next + 65000 ≤ 1000000000) (h size : Int) : ∃ r t, s.host h size = some (r, t) ∧ Does s t := by
  unfold Core.host
  by_cases hd : (s.hosts.add h size).1 ≠ 0
  · rw [if_pos hd]
    exact ⟨_, s, rfl, I, by omega, by omega, rfl⟩
  · rw [if_neg hd]
    have hd' : (s.hosts.add h size).1 = 0 := by simpa using hd
    have hfacts : (0 ≤ h ∧ h < 32) ∧ (s.hosts.at_ h).there = false ∧ (s.hosts.add h size).2 = s.hosts.put h ⟨true, false, size, 0⟩ := by
      unfold Hosts.add at hd' ⊢
      by_cases e1 : h < 0 ∨ 32 ≤ h ∨ size < 1 ∨ 4096 < size
      · rw [if_pos e1] at hd'; cases hd'
      · rw [if_neg e1] at hd' ⊢
        by_cases e2 : (s.hosts.at_ h).there = true
        · rw [if_pos e2] at hd'; cases hd'
        · rw [if_neg e2]
          exact ⟨⟨by omega, by omega⟩, by simpa using e2, rfl⟩
    obtain ⟨⟨h0, h1⟩, hth, hadd⟩ := hfacts
    have hz : sumIf (onHost h) s.boxes = 0 := by
      rw [← I.hi.used h h0 h1]
      exact I.hi.off _ (at_mem I.hi.len h0 h1) hth
    have H : HI (s.hosts.add h size).2 (fun h => sumIf (onHost h) s.boxes) := by
      rw [hadd]
      refine (I.hi.put h0 h1 ⟨true, false, size, 0⟩ (fun e => by cases e)).congr fun k k0 k1 => ?_
      show sumIf (onHost k) s.boxes = if k = h then (0 : Int) else sumIf (onHost k) s.boxes
      split
      · next e => rw [e, hz]
      · rfl
    have I1 := I.hosts H
    have hc : ∀ k, ({ s with hosts := (s.hosts.add h size).2, caches := FM.put s.caches h none } : Core).cache k = if k = h then ⟨[], 0⟩ else s.cache k := fun k => by
      unfold Core.cache
      simp only [FM.get_put]
      by_cases e : k = h
      · simp [e]
      · simp [e]
    have I2 : Ok0 { s with hosts := (s.hosts.add h size).2, caches := FM.put s.caches h none } := by
      refine ⟨I1.sb, I1.sf, I1.nx, I1.box, I1.fn, I1.fq, I1.ft, I1.tn, I1.tk, fun k => ?_, fun k id => ?_, fun k p hp => ?_, fun k => ?_, I1.hi⟩
      · rw [hc]; split
        · exact List.nodup_nil
        · exact I.cn k
      · rw [hc]
        by_cases e : k = h
        · rw [if_pos e]
          constructor
          · rintro ⟨p, hp, _⟩; cases hp
          · rintro ⟨_, b, hb, hh, _⟩
            exact absurd (hh.trans e) (I.none_on hz hb)
        · rw [if_neg e]; exact I.ck k id
      · rw [hc] at hp ⊢
        by_cases e : k = h
        · rw [if_pos e] at hp; cases hp
        · rw [if_neg e] at hp ⊢; exact I.cm k p hp
      · rw [hc]
        have := I.cc k
        split
        · show ((0 : Nat) : Int) + 1000000 * s.boxes.length ≤ 1000000 * s.next
          omega
        · exact this
    obtain ⟨v, hv, Iv, fv, nv, nv2⟩ := I2.keepAll (by show s.next + 64000 ≤ _; omega)
    rw [hv]
    have nv : v.next ≤ s.next + 64000 := nv
    have nv2 : s.next ≤ v.next := nv2
    exact ⟨0, v, rfl, Iv, by omega, nv2, fv.ans⟩
theorem call_not_loose {b : Box} (h : b.callOk = true) (now : Int) : (b.call now).loose = false ∧ (b.call now).fn = b.fn ∧ (b.call now).host = b.host ∧ (b.call now).mem = b.mem ∧ (b.call now).id = b.id := by
  unfold Box.callOk at h
  unfold Box.call Box.loose Box.idle
  simp only [Bool.or_eq_true, Bool.and_eq_true, beq_iff_eq, Bool.not_eq_true'] at h
  by_cases e : b.st = 1
  · rw [if_pos e]; exact ⟨by simp, rfl, rfl, rfl, rfl⟩
  · rw [if_neg e]
    rcases h with h | ⟨h1, h2⟩
    · exact absurd h e
    · rw [if_pos ⟨h1, h2⟩]
      exact ⟨by simp [h1], rfl, rfl, rfl, rfl⟩
theorem Inv.begin (I : Ok0 s) {f : Int} {b : Box} (hf : (FM.get s.fns f).isSome = true) (hb : FM.get s.boxes b.id = some b) (hc : b.callOk = true) : ∃ t, s.begin f b = some t ∧ Ok0 t ∧ t.next = s.next ∧ t.ans = s.ans := by
  cases hy : FM.get s.fns f with
  | none => rw [hy] at hf; cases hf
  | some y =>
    have hfb := I.fn _ _ hy
    unfold Core.begin
    rw [hy]
    simp only
    refine ⟨_, rfl, ?_, rfl, rfl⟩
    obtain ⟨z, hz⟩ : ∃ z : Fn, z = (if s.quota.busyOf f = 0 ∧ 0 ≤ y.last then { y with hist := y.hist.add (s.now - y.last), ring := y.ring ++ [s.now - y.last] } else y) := ⟨_, rfl⟩
    rw [← hz]
    have hz2 : z.acc = y.acc ∧ z.mem = y.mem ∧ z.cost = y.cost ∧ z.keep = y.keep := by rw [hz]; split <;> exact ⟨rfl, rfl, rfl, rfl⟩
    have I1 := I.fnput (f := f) (y := { z with often := min (y.often + 1) 1000 }) ⟨hfb.f, by rw [hz2.2.1]; exact hfb.mem, by rw [hz2.2.2.1]; exact hfb.cost, by have := hfb.often; show 0 ≤ min (y.often + 1) 1000 ∧ min (y.often + 1) 1000 ≤ 1000; omega, by rw [hz2.2.2.2]; exact hfb.keep⟩ (by show (FM.get s.toks z.acc).isSome = true; rw [hz2.1]; exact I.ft _ _ hy)
    have I2 := (I1.tdrop ⟨1, f⟩).quota (q := s.quota.begin f) (fun g hg => by rw [begin_known] at hg; exact I1.fq g hg)
    obtain ⟨I3, hk⟩ := Inv.take (b := b) I2 hb (fun _ _ h => h)
    obtain ⟨c1, c2, c3, c4, c5⟩ := call_not_loose hc s.now
    exact Inv.setBox (b := b.call s.now) (b0 := b) (x' := fun _ => False) I3 (by rw [c5]; exact hb) c2 c3 c4 (by rw [c5]; exact hk) (.inr c5) (fun i hi => ⟨fun h => h.elim, fun h => by rw [c5] at hi; exact hi h⟩) (.inr c1)
theorem free_in {f : Int} {b : Box} (h : s.free f = some b) : b.idle = true ∧ b.fn = f := by
  unfold Core.free at h
  have gen : ∀ (l : List Box) (o : Option Box), (∀ c ∈ l, c.idle = true ∧ c.fn = f) → (∀ c, o = some c → c.idle = true ∧ c.fn = f) → ∀ c, l.foldl Core.last o = some c → c.idle = true ∧ c.fn = f := by
    intro l
    induction l with
    | nil => intro o _ ho c hc; exact ho c hc
    | cons a r ih =>
      intro o hl ho c hc
      rw [List.foldl_cons] at hc
      refine ih _ (fun d hd => hl d (List.mem_cons_of_mem _ hd)) ?_ c hc
      intro d hd
      unfold Core.last at hd
      split at hd
      · cases hd; exact hl _ List.mem_cons_self
      · next e =>
        split at hd
        · cases hd; exact hl _ List.mem_cons_self
        · cases hd; exact ho _ rfl
  refine gen _ none (fun c hc => ?_) (fun c hc => by cases hc) b h
  obtain ⟨y, hy, rfl⟩ := List.mem_map.1 hc
  have := (List.mem_filter.1 hy).2
  simp only [Bool.and_eq_true, beq_iff_eq] at this
  exact ⟨this.2, this.1⟩
theorem free_get (I : Ok0 s) {f : Int} {b : Box} (h : s.free f = some b) : FM.get s.boxes b.id = some b := by
  unfold Core.free at h
  have gen : ∀ (l : List Box) (o : Option Box), (∀ c ∈ l, FM.get s.boxes c.id = some c) → (∀ c, o = some c → FM.get s.boxes c.id = some c) → ∀ c, l.foldl Core.last o = some c → FM.get s.boxes c.id = some c := by
    intro l
    induction l with
    | nil => intro o _ ho c hc; exact ho c hc
    | cons a r ih =>
      intro o hl ho c hc
      rw [List.foldl_cons] at hc
      refine ih _ (fun d hd => hl d (List.mem_cons_of_mem _ hd)) ?_ c hc
      intro d hd
      unfold Core.last at hd
      split at hd
      · cases hd; exact hl _ List.mem_cons_self
      · next e =>
        split at hd
        · cases hd; exact hl _ List.mem_cons_self
        · cases hd; exact ho _ rfl
  refine gen _ none (fun c hc => ?_) (fun c hc => by cases hc) b h
  obtain ⟨y, hy, rfl⟩ := List.mem_map.1 hc
  have hg := FM.get_of_mem I.sb (x := y.1) (v := y.2) (List.mem_filter.1 hy).1
  rw [(I.box _ _ hg).1]
  exact hg
theorem ask_known' {q : Quota} {f : Int} (h : q.ask f ≠ -1) : q.known f = true := by
  unfold Quota.ask at h
  cases e : q.known f with
  | true => rfl
  | false => rw [if_pos e] at h; exact absurd rfl h
theorem does_call (I : Ok0 s) (hn : s.next + 65000 ≤ 1000000000) (f : Int) : ∃ a t, s.call f = some (a, t) ∧ Does s t := by
  have D0 : Does s s := ⟨I, by omega, by omega, rfl⟩
  unfold Core.call
  by_cases a1 : s.quota.ask f = -1
  · rw [if_pos a1]; exact ⟨_, s, rfl, D0⟩
  rw [if_neg a1]
  by_cases a2 : s.quota.ask f = 1
  · rw [if_pos a2]; exact ⟨_, s, rfl, D0⟩
  rw [if_neg a2]
  by_cases a3 : s.quota.ask f = 2
  · rw [if_pos a3]; exact ⟨_, s, rfl, D0⟩
  rw [if_neg a3]
  have hf := I.fq f (ask_known' a1)
  cases hy : FM.get s.fns f with
  | none => rw [hy] at hf; cases hf
  | some y =>
    simp only
    have hfb := I.fn _ _ hy
    cases hfr : s.free f with
    | some b =>
      simp only
      obtain ⟨t, ht, It, nt, at_⟩ := I.begin (f := f) (b := b) (by rw [hy]; rfl) (free_get I hfr) (by unfold Box.callOk; have := (free_in hfr).1; unfold Box.idle at this; rw [this]; rfl)
      rw [ht]
      exact ⟨_, t, rfl, It, by omega, by omega, at_⟩
    | none =>
      simp only
      have htk := I.ft _ _ hy
      cases hk : FM.get s.toks y.acc with
      | none => rw [hk] at htk; cases htk
      | some k =>
        simp only
        by_cases k0 : k.tok = 0
        · rw [if_pos k0]; exact ⟨_, s, rfl, D0⟩
        rw [if_neg k0]
        obtain ⟨t, r, hr, It, ft, nt, hcase⟩ := I.room (mem := y.mem) (by have := hfb.mem; omega)
        rw [hr]
        simp only
        rcases hcase with hr0 | ⟨r0, r1, r2⟩
        · rw [if_pos hr0]
          exact ⟨_, t, rfl, It, by omega, by omega, ft.ans⟩
        · rw [if_neg (by omega)]
          have It2 : Ok0 { t with toks := FM.put t.toks y.acc k.take } := It.toks fun a ha => by
            rw [FM.get_put]; split
            · rfl
            · exact ha
          have hyt : FM.get t.fns f = some y := by rw [ft.fns]; exact hy
          obtain ⟨v, hv, Iv, fv, nv, bv, _⟩ := It2.start (f := f) hyt r0 r1 r2 (by show t.next + 1 ≤ _; omega)
          rw [hv]
          simp only
          have nv : v.next = t.next + 1 := nv
          obtain ⟨z, hz, Iz, nz, az⟩ := Iv.begin (f := f) (b := Core.boot f r t.next y.mem t.now) (by rw [fv.fns]; show (FM.get t.fns f).isSome = true; rw [hyt]; rfl) (by
            rw [bv]
            show FM.get (FM.put t.boxes t.next _) t.next = _
            rw [FM.get_put, if_pos rfl]) rfl
          have hz2 : v.begin f (Core.boot f r ({ t with toks := FM.put t.toks y.acc k.take } : Core).next y.mem ({ t with toks := FM.put t.toks y.acc k.take } : Core).now) = some z := hz
          rw [hz2]
          exact ⟨_, z, rfl, Iz, by omega, by omega, az.trans (fv.ans.trans ft.ans)⟩
theorem does_booted (I : Ok0 s) (id : Int) : ∃ r t, s.booted id = some (r, t) ∧ Does s t := by
  have D0 : Does s s := ⟨I, by omega, by omega, rfl⟩
  unfold Core.booted
  cases hb : FM.get s.boxes id with
  | none => exact ⟨_, s, rfl, D0⟩
  | some b =>
    simp only
    by_cases h0 : b.st ≠ 0
    · rw [if_pos h0]; exact ⟨_, s, rfl, D0⟩
    · rw [if_neg h0]
      have h0' : b.st = 0 := by simpa using h0
      have hid := (I.box _ _ hb).1
      have hb' : FM.get s.boxes b.id = some b := by rw [hid]; exact hb
      have hlo : b.loose = false := by unfold Box.loose Box.idle; rw [h0']; rfl
      obtain ⟨c, hc⟩ : ∃ c, c = b.booted s.now := ⟨_, rfl⟩
      rw [← hc]
      have hcf : c.id = b.id ∧ c.fn = b.fn ∧ c.host = b.host ∧ c.mem = b.mem ∧ c.pinned = b.pinned := by rw [hc]; unfold Box.booted; split <;> exact ⟨rfl, rfl, rfl, rfl, rfl⟩
      have fin : ∀ tt, ∃ r t, (if c.idle = true ∧ b.pinned = false then (Core.idle { (s.setBox c) with til := FM.del (s.setBox c).til id } c tt).map (fun u => ((0 : Int), u)) else some (0, { (s.setBox c) with til := FM.del (s.setBox c).til id })) = some (r, t) ∧ Does s t := fun tt => by
        by_cases hl : c.idle = true ∧ b.pinned = false
        · rw [if_pos hl]
          have I1 := Inv.setBox (b := c) (b0 := b) (x' := fun i => i = c.id) I (by rw [hcf.1]; exact hb') hcf.2.1 hcf.2.2.1 hcf.2.2.2.1 (by rw [hcf.1]; exact I.no_timer hb' hlo) (.inl hlo) (fun i hi => ⟨fun h => hi h, fun h => h.elim⟩) (.inl rfl)
          obtain ⟨t, ht, It, ft, nt, _⟩ := (I1.til (FM.del (s.setBox c).til id)).idle (b := c) (by show FM.get (FM.put s.boxes c.id c) c.id = _; rw [FM.get_put, if_pos rfl]) rfl (fun i hi h => hi h) (by unfold Box.loose; rw [hl.1, hcf.2.2.2.2, hl.2]; rfl) tt
          rw [ht]
          have nt : t.next = s.next := nt
          exact ⟨0, t, rfl, It, by omega, by omega, ft.ans⟩
        · rw [if_neg hl]
          have hlc : c.loose = false := by
            unfold Box.loose
            rw [hcf.2.2.2.2]
            cases e : c.idle with
            | false => rfl
            | true =>
              cases e2 : b.pinned with
              | true => rfl
              | false => exact absurd ⟨e, e2⟩ hl
          have I1 := Inv.setBox (b := c) (b0 := b) (x' := fun _ => False) I (by rw [hcf.1]; exact hb') hcf.2.1 hcf.2.2.1 hcf.2.2.2.1 (by rw [hcf.1]; exact I.no_timer hb' hlo) (.inl hlo) (fun i hi => Iff.rfl) (.inr hlc)
          exact ⟨0, _, rfl, I1.til _, by show s.next ≤ _; omega, by show s.next ≤ s.next; omega, rfl⟩
      cases htl : FM.get s.til id with
      | some t => exact fin t
      | none =>
        have hff := (I.box _ _ hb).2.2.2.2.2
        cases hy : FM.get s.fns b.fn with
        | none => rw [hy] at hff; cases hff
        | some y =>
          have e9 : Core.window { (s.setBox c) with til := FM.del (s.setBox c).til id } b.fn = some (win y.hist y.ring) := by unfold Core.window; show Option.map _ (FM.get s.fns b.fn) = _; rw [hy]; rfl
          simp only
          rw [e9]
          exact fin _
theorem does_broke (I : Ok0 s) (hn : s.next + 65000 ≤ 1000000000) (id : Int) : ∃ r t, s.broke id = some (r, t) ∧ Does s t := by
  unfold Core.broke
  cases hb : FM.get s.boxes id with
  | none => exact ⟨_, s, rfl, I, by omega, by omega, rfl⟩
  | some b =>
    simp only
    have hid := (I.box _ _ hb).1
    have hb' : FM.get s.boxes b.id = some b := by rw [hid]; exact hb
    obtain ⟨v, hv, Iv, he⟩ := I.gone hb' (fun _ _ h => h)
    rw [hv]
    simp only
    have hf := (I.box _ _ hb).2.2.2.2.2
    have hf2 : (FM.get v.fns b.fn).isSome = true := by
      have := he.fns b.fn
      cases e1 : FM.get s.fns b.fn with
      | none => rw [e1] at hf; cases hf
      | some y =>
        rw [e1] at this
        cases e2 : FM.get v.fns b.fn with
        | none => rw [e2] at this; cases this
        | some z => rfl
    have nv := he.next
    obtain ⟨t, ht, It, ft, nt, nt2⟩ := Iv.keep hf2 (by omega)
    rw [ht]
    exact ⟨0, t, rfl, It, by omega, by omega, ft.ans.trans he.ans⟩
theorem does_done (I : Ok0 s) (id : Int) : ∃ r t, s.done id = some (r, t) ∧ Does s t := by
  have D0 : Does s s := ⟨I, by omega, by omega, rfl⟩
  unfold Core.done
  cases hb : FM.get s.boxes id with
  | none => exact ⟨_, s, rfl, D0⟩
  | some b =>
    simp only
    by_cases h0 : b.st ≠ 2
    · rw [if_pos h0]; exact ⟨_, s, rfl, D0⟩
    · rw [if_neg h0]
      have h0' : b.st = 2 := by simpa using h0
      have hid := (I.box _ _ hb).1
      have hb' : FM.get s.boxes b.id = some b := by rw [hid]; exact hb
      have hlo : b.loose = false := by unfold Box.loose Box.idle; rw [h0']; rfl
      have hf := (I.box _ _ hb).2.2.2.2.2
      cases hy : FM.get s.fns b.fn with
      | none => rw [hy] at hf; cases hf
      | some y =>
        have hw : s.window b.fn = some (win y.hist y.ring) := by unfold Core.window; rw [hy]; rfl
        rw [hw]
        simp only
        have hfb := I.fn _ _ hy
        obtain ⟨c, hc⟩ : ∃ c : Box, c = { b with st := 1, since := s.now } := ⟨_, rfl⟩
        rw [← hc]
        have hcf : c.id = b.id ∧ c.fn = b.fn ∧ c.host = b.host ∧ c.mem = b.mem ∧ c.pinned = b.pinned := by rw [hc]; exact ⟨rfl, rfl, rfl, rfl, rfl⟩
        have hci : c.idle = true := by rw [hc]; rfl
        have I1 := Inv.setBox (b := c) (b0 := b) (x' := fun i => i = c.id) I (by rw [hcf.1]; exact hb') hcf.2.1 hcf.2.2.1 hcf.2.2.2.1 (by rw [hcf.1]; exact I.no_timer hb' hlo) (.inl hlo) (fun i hi => ⟨fun h => hi h, fun h => h.elim⟩) (.inl rfl)
        have I2 := I1.fnput (f := b.fn) (y := { y with last := s.now }) ⟨hfb.f, hfb.mem, hfb.cost, hfb.often, hfb.keep⟩ (show (FM.get s.toks y.acc).isSome = true from I.ft _ _ hy)
        have I3 : Inv (fun i => i = c.id) { (s.setBox c) with quota := s.quota.fin b.fn, fns := FM.put s.fns b.fn { y with last := s.now } } := I2.quota (q := s.quota.fin b.fn) (fun f hf => by
          rw [fin_known] at hf
          exact I2.fq f hf)
        have hgc : FM.get (FM.put s.boxes c.id c) c.id = some c := by rw [FM.get_put, if_pos rfl]
        by_cases hu : s.hosts.up b.host = false
        · rw [if_pos hu]
          obtain ⟨v, hv, hk, Iv, he⟩ := I3.kill (b := c) hgc (fun i hi h => hi h)
          rw [hk]
          exact ⟨0, _, rfl, Iv.out _, by show v.next ≤ _; rw [he.next]; show s.next ≤ _; omega, by show s.next ≤ v.next; rw [he.next]; exact Int.le_refl _, he.ans⟩
        · rw [if_neg hu]
          by_cases hp : b.pinned = true
          · rw [if_pos hp]
            refine ⟨0, _, rfl, I3.exch fun i d hd hdl => ?_, by show s.next ≤ _; omega, Int.le_refl _, rfl⟩
            constructor
            · exact fun h => h.elim
            · intro e
              have hd2 : FM.get (FM.put s.boxes c.id c) i = some d := hd
              rw [e, hgc] at hd2
              cases hd2
              unfold Box.loose at hdl
              rw [hcf.2.2.2.2, hp] at hdl
              simp at hdl
          · rw [if_neg hp]
            have hcl : c.loose = true := by unfold Box.loose; rw [hci, hcf.2.2.2.2]; simpa using hp
            by_cases hpre : 0 < (win y.hist y.ring).pre
            · rw [if_pos hpre]
              have htl := I.timers_len
              have hnx := I.nx
              rw [if_neg (by omega)]
              have I4 := I3.fnput (f := b.fn) (y := { y with last := s.now, til := s.now + (win y.hist y.ring).fin }) ⟨hfb.f, hfb.mem, hfb.cost, hfb.often, hfb.keep⟩ (show (FM.get s.toks y.acc).isSome = true from I.ft _ _ hy)
              have I5 := I4.tset ⟨1, b.fn⟩ (s.now + (win y.hist y.ring).pre) (.inr ⟨rfl, by show (FM.get (FM.put _ b.fn _) b.fn).isSome = true; rw [FM.get_put, if_pos rfl]; rfl⟩)
              obtain ⟨v, hv, hk, Iv, he⟩ := I5.kill (b := c) hgc (fun i hi h => hi h)
              rw [hk]
              exact ⟨0, _, rfl, Iv.out _, by show v.next ≤ _; rw [he.next]; show s.next ≤ _; omega, by show s.next ≤ v.next; rw [he.next]; exact Int.le_refl _, he.ans⟩
            · rw [if_neg hpre]
              obtain ⟨t, ht, It, ft, nt, _⟩ := I3.idle (b := c) hgc rfl (fun i hi h => hi h) hcl (s.now + (win y.hist y.ring).fin)
              rw [ht]
              have nt : t.next = s.next := nt
              exact ⟨0, t, rfl, It, by omega, by omega, ft.ans⟩
end
end Go.Proofs.YtjmdgicdpggljaaGreat.GH
