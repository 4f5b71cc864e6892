/- Proved: the core's memory with a part of it turned: what stands and what is new. -/
import Derived.Test.YtjmdgicdpggljaaGreatM20
import Derived.Test.YtjmdgicdpggljaaGreatM08
import Derived.Test.YtjmdgicdpggljaaGreatM09
set_option linter.all false
namespace Go.Proofs.YtjmdgicdpggljaaGreat.GH
open Go.RowKit Go.Proofs.YtjmdgicdpggljaaGreat.Histo Go.Proofs.YtjmdgicdpggljaaGreat.Event Go.Proofs.YtjmdgicdpggljaaGreat.Ring
set_option linter.unusedVariables false
open Go.Proofs.YtjmdgicdpggljaaGreat.MapG (Codec Mk)
open Go.Proofs.YtjmdgicdpggljaaGreat.MapI (AL At Rng W64)

/-! ### maps: one value turned -/
namespace FM
variable {α : Type}
theorem Sorted.of_vals {f : Int → α → Value} {l : FM α} (h : (vals f l).Pairwise fun p q => p.1 < q.1) : Sorted l := by
  unfold vals at h
  rw [List.pairwise_map] at h
  exact h
theorem mem_iff {l : FM α} (hs : Sorted l) {k : Int} {a : α} : (k, a) ∈ l ↔ get l k = some a := ⟨get_of_mem hs, mem_of_get⟩
theorem del_above {l : FM α} {k : Int} (h : ∀ p ∈ l, k < p.1) : del l k = l := by
  unfold del
  exact List.filter_eq_self.2 fun p hp => by have := h p hp; simp; omega
theorem ins_above {l : FM α} {k : Int} {a : α} (h : ∀ p ∈ l, k < p.1) : ins (k, a) l = (k, a) :: l := by
  cases l with
  | nil => rfl
  | cons q r => unfold ins; rw [if_pos (h q List.mem_cons_self)]
/-- A value that is set anew at a key that is there. -/
theorem put_there {l : FM α} (hs : Sorted l) {k : Int} {a0 a : α} (h : get l k = some a0) : put l k a = l.map fun p => if p.1 = k then (k, a) else p := by
  unfold Sorted at hs
  induction l with
  | nil => cases h
  | cons p r ih =>
    rw [List.pairwise_cons] at hs
    rw [get_cons] at h
    unfold put del
    rw [List.filter_cons]
    by_cases hp : p.1 = k
    · rw [if_neg (by simp [hp])]
      have ha : ∀ q ∈ r, k < q.1 := fun q hq => by have := hs.1 q hq; omega
      have e1 : List.filter (fun p => p.1 != k) r = r := del_above ha
      rw [e1, ins_above ha, List.map_cons, if_pos hp]
      congr 1
      conv => lhs; rw [← List.map_id r]
      exact List.map_congr_left fun q hq => by have := ha q hq; rw [if_neg (by omega)]; rfl
    · rw [if_neg hp] at h
      rw [if_pos (by simp [hp]), List.map_cons, if_neg hp]
      have hlt : p.1 < k := by have := hs.1 _ (mem_of_get h); exact this
      show ins (k, a) (p :: del r k) = _
      unfold ins
      rw [if_neg (by simp; omega)]
      congr 1
      exact ih hs.2 h
theorem vals_put {f : Int → Value} {l : FM α} (hs : Sorted l) {k : Int} {a0 a : α} (h : get l k = some a0) : vals (fun x _ => f x) (put l k a) = vals (fun x _ => f x) l := by
  rw [put_there hs h]
  unfold vals
  rw [List.map_map]
  exact List.map_congr_left fun p _ => by
    simp only [Function.comp]
    split
    · next e => rw [e]
    · rfl
theorem vals_put' {f : Int → α → Value} {l : FM α} (hs : Sorted l) {k : Int} {a0 a : α} (h : get l k = some a0) (hf : f k a = f k a0) : vals f (put l k a) = vals f l := by
  rw [put_there hs h]
  unfold vals
  rw [List.map_map]
  exact List.map_congr_left fun p hp => by
    simp only [Function.comp]
    split
    · next e =>
      obtain ⟨p1, p2⟩ := p
      simp only at e
      subst e
      have := get_of_mem hs hp
      rw [this] at h
      cases h
      rw [hf]
    · rfl
theorem put_same {l : FM α} (hs : Sorted l) {k : Int} {a : α} (h : get l k = some a) : put l k a = l := by
  rw [put_there hs h]
  conv => rhs; rw [← List.map_id l]
  exact List.map_congr_left fun p hp => by
    split
    · next e =>
      obtain ⟨p1, p2⟩ := p
      simp only at e
      subst e
      have := get_of_mem hs hp
      rw [this] at h
      cases h
      rfl
    · rfl
theorem keys_put {l : FM α} (hs : Sorted l) {k : Int} {a0 a : α} (h : get l k = some a0) : keys (put l k a) = keys l := by
  rw [put_there hs h]
  unfold keys
  rw [List.map_map]
  exact List.map_congr_left fun p _ => by
    simp only [Function.comp]
    split
    · next e => rw [e]
    · rfl
theorem length_put_there {l : FM α} (hs : Sorted l) {k : Int} {a0 a : α} (h : get l k = some a0) : (put l k a).length = l.length := by
  have := congrArg List.length (keys_put hs h (a := a))
  unfold keys at this
  simpa using this
theorem length_del_there {l : FM α} (hs : Sorted l) {k : Int} {a0 : α} (h : get l k = some a0) : (del l k).length + 1 = l.length := by
  have e : put l k a0 = l := by
    rw [put_there hs h]
    conv => rhs; rw [← List.map_id l]
    exact List.map_congr_left fun p hp => by
      split
      · next e =>
        obtain ⟨p1, p2⟩ := p
        simp only at e
        subst e
        have := get_of_mem hs hp
        rw [this] at h
        cases h
        rfl
      · rfl
  have h2 := congrArg List.length e
  unfold put at h2
  rw [length_ins] at h2
  exact h2
theorem length_put_new {l : FM α} {k : Int} {a : α} (h : get l k = none) : (put l k a).length = l.length + 1 := by
  have e : del l k = l := by
    unfold del
    refine List.filter_eq_self.2 fun p hp => ?_
    have : p.1 ≠ k := fun e => by
      obtain ⟨p1, p2⟩ := p
      subst e
      have hn : (List.find? (fun q : Int × α => q.1 == p1) l) = none := by
        unfold get at h
        cases hf : List.find? (fun q : Int × α => q.1 == p1) l with
        | none => rfl
        | some x => simp only at h; rw [hf] at h; cases h
      have := List.find?_eq_none.1 hn _ hp
      simp at this
    simpa using this
  unfold put
  rw [e, length_ins]
theorem length_le {l : FM α} (hs : Sorted l) {n : Nat} (h : ∀ p ∈ l, 0 ≤ p.1 ∧ p.1 < n) : l.length ≤ n := by
  have aux : ∀ (l : FM α) (m : Int), Sorted l → (∀ p ∈ l, m ≤ p.1 ∧ p.1 < n) → m ≤ n → (l.length : Int) ≤ n - m := by
    intro l
    induction l with
    | nil => intro m _ _ hm; simp; omega
    | cons p r ih =>
      intro m hs h hm
      unfold Sorted at hs
      rw [List.pairwise_cons] at hs
      have hp := h p List.mem_cons_self
      have := ih (p.1 + 1) hs.2 (fun q hq => ⟨by have := hs.1 q hq; omega, (h q (List.mem_cons_of_mem _ hq)).2⟩) (by omega)
      rw [List.length_cons]
      omega
  have := aux l 0 hs h (by omega)
  omega
end FM

/-! ### what doesn't move -/
/-- Parts that lie where they lie for as long as the core is. -/
def Head : Tag → Prop
  | .core | .quota | .toks | .fns | .hosts | .caches | .boxes | .til | .timers | .theap | .tat => True
  | _ => False
/-- Whatever is known of a state has its block where it was. -/
def Kept (s : Core) : Tag → Prop
  | .core | .quota | .toks | .fns | .hosts | .caches | .boxes | .til | .timers | .theap | .tat => True
  | .box id => id < s.next
  | .fn f | .hist f | .ring f => (FM.get s.fns f).isSome = true
  | .tok a => (FM.get s.toks a).isSome = true
  | _ => False
theorem Head.kept {t : Tag} (h : Head t) (s : Core) : Kept s t := by cases t <;> first | exact h.elim | exact True.intro
section
variable {T : Tag → Prop} {w w' : World} {g g' : G} {s s' : Core} {ov ov' : Value}
theorem cells_heads (hd : ∀ t, Head t → g'.ad t = g.ad t) : s.cells g' ov = s.cells g ov := by
  unfold Core.cells
  rw [hd .quota True.intro, hd .toks True.intro, hd .fns True.intro, hd .hosts True.intro, hd .caches True.intro, hd .boxes True.intro, hd .til True.intro, hd .timers True.intro]
/-- The memory with some parts turned. -/
theorem Mem.turn (m : Mem w g s ov) (st : Step T w g w' g') (s' : Core) (ov' : Value) (hd : ∀ t, Head t → g'.ad t = g.ad t)
    (core : (¬ T .core ∧ s'.now = s.now ∧ s'.next = s.next ∧ ov' = ov ∧ s'.ans = s.ans) ∨ Nm w' g' .core 65 (s'.cells g' ov') := by exact .inl ⟨by simp, rfl, rfl, rfl, rfl⟩)
    (out : (¬ T .out ∧ ov' = ov ∧ s'.out = s.out) ∨ OutAt w' g' ov' s'.out := by exact .inl ⟨by simp, rfl, rfl⟩)
    (quota : (¬ T .quota ∧ s'.quota = s.quota) ∨ (Nm w' g' .quota 81 s'.quota.cells ∧ s'.quota.Ok) := by exact .inl ⟨by simp, rfl⟩)
    (toks : ((¬ T .toks ∧ ∀ a, ¬ T (.tok a)) ∧ s'.toks = s.toks) ∨ ToksAt w' g' s'.toks := by exact .inl ⟨by simp, rfl⟩)
    (fns : ((¬ T .fns ∧ (∀ a, ¬ T (.fn a)) ∧ (∀ a, ¬ T (.hist a)) ∧ (∀ a, ¬ T (.ring a))) ∧ s'.fns = s.fns) ∨ FnsAt w' g' s'.fns := by exact .inl ⟨by simp, rfl⟩)
    (hosts : (¬ T .hosts ∧ s'.hosts = s.hosts) ∨ (Nm w' g' .hosts 86 s'.hosts.cells ∧ s'.hosts.Ok) := by exact .inl ⟨by simp, rfl⟩)
    (caches : ((¬ T .caches ∧ (∀ a, ¬ T (.cache a)) ∧ (∀ a, ¬ T (.heap a)) ∧ (∀ a, ¬ T (.hat a)) ∧ (∀ a, ¬ T (.items a))) ∧ s'.caches = s.caches) ∨ CachesAt w' g' s'.caches := by exact .inl ⟨by simp, rfl⟩)
    (boxes : ((¬ T .boxes ∧ ∀ a, ¬ T (.box a)) ∧ s'.boxes = s.boxes) ∨ BoxesAt w' g' s'.boxes := by exact .inl ⟨by simp, rfl⟩)
    (til : (¬ T .til ∧ s'.til = s.til) ∨ TilAt w' g' s'.til := by exact .inl ⟨by simp, rfl⟩)
    (timers : ((¬ T .timers ∧ ¬ T .theap ∧ ¬ T .tat ∧ ¬ T .titems) ∧ s'.timers = s.timers) ∨ TimersG w' g' s'.timers := by exact .inl ⟨by simp, rfl⟩)
    (ans : s'.ans.length = 5 := by exact m.ans) : Mem w' g' s' ov' where
  core := by
    rcases core with ⟨h0, h1, h2, h3, h4⟩ | h
    · have e : s'.cells g' ov' = s.cells g ov := by
        rw [cells_heads hd]
        unfold Core.cells
        rw [h1, h2, h3, h4]
      rw [e]
      exact m.core.step st h0
    · exact h
  out := by
    rcases out with ⟨h0, h1, h2⟩ | h
    · rw [h1, h2]; exact m.out.step st h0
    · exact h
  quota := by
    rcases quota with ⟨h0, h1⟩ | h
    · rw [h1]; exact m.quota.step st h0
    · exact h.1
  qok := by
    rcases quota with ⟨h0, h1⟩ | h
    · rw [h1]; exact m.qok
    · exact h.2
  toks := by
    rcases toks with ⟨h0, h1⟩ | h
    · rw [h1]; exact m.toks.step st h0.1 h0.2
    · exact h
  fns := by
    rcases fns with ⟨h0, h1⟩ | h
    · rw [h1]; exact m.fns.step st h0.1 h0.2.1 h0.2.2.1 h0.2.2.2
    · exact h
  hosts := by
    rcases hosts with ⟨h0, h1⟩ | h
    · rw [h1]; exact m.hosts.step st h0
    · exact h.1
  hok := by
    rcases hosts with ⟨h0, h1⟩ | h
    · rw [h1]; exact m.hok
    · exact h.2
  caches := by
    rcases caches with ⟨h0, h1⟩ | h
    · rw [h1]; exact m.caches.step st h0.1 h0.2.1 h0.2.2.1 h0.2.2.2.1 h0.2.2.2.2
    · exact h
  boxes := by
    rcases boxes with ⟨h0, h1⟩ | h
    · rw [h1]; exact m.boxes.step st h0.1 h0.2
    · exact h
  til := by
    rcases til with ⟨h0, h1⟩ | h
    · rw [h1]; exact m.til.step st h0
    · exact h
  timers := by
    rcases timers with ⟨h0, h1⟩ | h
    · rw [h1]; exact m.timers.step st h0.1 h0.2.1 h0.2.2.1 h0.2.2.2
    · exact h
  ans := ans

/-! ### parts with one thing turned -/
theorem ToksAt.sorted {l : FM Bkt} (h : ToksAt w g l) : FM.Sorted l := FM.Sorted.of_vals (MapI.At.sorted h.map Tryz.underlying3)
theorem FnsAt.sorted {l : FM Fn} (h : FnsAt w g l) : FM.Sorted l := FM.Sorted.of_vals (MapI.At.sorted h.map Tryz.underlying3)
theorem BoxesAt.sorted {l : FM Box} (h : BoxesAt w g l) : FM.Sorted l := FM.Sorted.of_vals (MapI.At.sorted h.map Tryz.underlying3)
theorem CachesAt.sorted {l : FM (Option Cache)} (h : CachesAt w g l) : FM.Sorted l := FM.Sorted.of_vals (MapI.At.sorted h.map Tryz.underlying3)
theorem TilAt.sorted {l : FM Int} (h : TilAt w g l) : FM.Sorted l := FM.Sorted.of_vals (MapI.At.sorted h.map Tryz.underlying3)
theorem BoxesAt.one {l : FM Box} (h : BoxesAt w g l) {id : Int} {b0 b : Box} (hg : FM.get l id = some b0) (st : Step (fun t => t = .box id) w g w' g) (hb : Blk w' (g.ad (.box id)) 72 b.cells) : BoxesAt w' g (FM.put l id b) := by
  have h1 := h.lv.heap st (by simp)
  refine ⟨h.lv.step st (by simp), ?_, fun k c hk => ?_⟩
  · rw [FM.vals_put h.sorted hg]; exact h.map.same h1
  · rw [FM.get_put] at hk
    by_cases e : k = id
    · subst e; rw [if_pos rfl] at hk; cases hk
      exact ⟨⟨(h.each _ _ hg).lv.own, hb.lt⟩, hb⟩
    · rw [if_neg e] at hk
      exact (h.each k c hk).step st (by simp [e])
theorem ToksAt.one {l : FM Bkt} (h : ToksAt w g l) {id : Int} {b0 b : Bkt} (hg : FM.get l id = some b0) (st : Step (fun t => t = .tok id) w g w' g) (hb : Blk w' (g.ad (.tok id)) 161 b.cells) : ToksAt w' g (FM.put l id b) := by
  have h1 := h.lv.heap st (by simp)
  refine ⟨h.lv.step st (by simp), ?_, fun k c hk => ?_⟩
  · rw [FM.vals_put h.sorted hg]; exact h.map.same h1
  · rw [FM.get_put] at hk
    by_cases e : k = id
    · subst e; rw [if_pos rfl] at hk; cases hk
      exact ⟨⟨(h.each _ _ hg).lv.own, hb.lt⟩, hb⟩
    · rw [if_neg e] at hk
      exact (h.each k c hk).step st (by simp [e])
theorem FnsAt.one {l : FM Fn} (h : FnsAt w g l) {f : Int} {x0 x : Fn} (hg : FM.get l f = some x0) (st : Step (fun t => t = .fn f ∨ t = .hist f ∨ t = .ring f) w g w' g) (hb : FnAt w' g f x) : FnsAt w' g (FM.put l f x) := by
  have h1 := h.lv.heap st (by simp)
  refine ⟨h.lv.step st (by simp), ?_, fun k c hk => ?_⟩
  · rw [FM.vals_put h.sorted hg]; exact h.map.same h1
  · rw [FM.get_put] at hk
    by_cases e : k = f
    · subst e; rw [if_pos rfl] at hk; cases hk
      exact hb
    · rw [if_neg e] at hk
      exact (h.each k c hk).step st (by simp [e]) (by simp [e]) (by simp [e])
theorem CachesAt.one {l : FM (Option Cache)} (h : CachesAt w g l) {k : Int} {c0 c : Cache} (hg : FM.get l k = some (some c0)) (st : Step (CacheTags k) w g w' g') (hc : CacheG w' g' k c) (ha : ∀ t, t ≠ .items k → g'.ad t = g.ad t) : CachesAt w' g' (FM.put l k (some c)) := by
  have h1 := h.lv.heap st (by simp [CacheTags])
  rw [ha _ (by simp)] at h1
  refine ⟨h.lv.step st (by simp [CacheTags]), ?_, fun x c' hx => ?_⟩
  · rw [ha _ (by simp), show (fun (h : Int) (c : Option Cache) => cval (g'.ad (.cache h)) c) = fun h c => cval (g.ad (.cache h)) c from funext fun a => funext fun c => by rw [ha _ (by simp)], FM.vals_put' (f := fun h c => cval (g.ad (.cache h)) c) h.sorted hg (a := some c) rfl]
    exact h.map.same h1
  · rw [FM.get_put] at hx
    by_cases e : x = k
    · subst e; rw [if_pos rfl] at hx; cases hx
      exact hc
    · rw [if_neg e] at hx
      exact (h.each x c' hx).step st (by simp [CacheTags, e]) (by simp [CacheTags, e]) (by simp [CacheTags, e]) (by simp [CacheTags, e])
end
end Go.Proofs.YtjmdgicdpggljaaGreat.GH

/- Bounds of the numbers of a core's state, which each step of the core keeps; what a step of the core leaves in memory. -/
namespace Go.Proofs.YtjmdgicdpggljaaGreat.GH
open Go.RowKit Go.Proofs.YtjmdgicdpggljaaGreat.Histo Go.Proofs.YtjmdgicdpggljaaGreat.Event Go.Proofs.YtjmdgicdpggljaaGreat.Ring
set_option linter.unusedVariables false
open Go.Proofs.YtjmdgicdpggljaaGreat.Policy (Win win)
open Go.Proofs.YtjmdgicdpggljaaGreat.Cast (nx nx_bd)
open Go.Proofs.YtjmdgicdpggljaaGreat.MapG (Codec Mk)
open Go.Proofs.YtjmdgicdpggljaaGreat.MapI (AL At Rng W64)

theorem win_bd (s : S) (ts : List Int) : 0 ≤ (win s ts).pre ∧ 0 < (win s ts).fin ∧ (win s ts).pre ≤ 1099511627776 ∧ (win s ts).fin ≤ 1649267441664 ∧ 0 ≤ (win s ts).how ∧ (win s ts).how ≤ 2 := by
  unfold win
  split
  · exact ⟨by decide, by decide, by decide, by decide, by decide, by decide⟩
  split
  · have h := nx_bd (last8 ts) (by unfold last8; rw [List.length_drop]; omega)
    show 0 ≤ nx (last8 ts) * 85 / 100 ∧ 0 < max ((nx (last8 ts) * 115 + 99) / 100) (nx (last8 ts) * 85 / 100 + 1) ∧ nx (last8 ts) * 85 / 100 ≤ _ ∧ max ((nx (last8 ts) * 115 + 99) / 100) (nx (last8 ts) * 85 / 100 + 1) ≤ _ ∧ (0 : Int) ≤ 2 ∧ (2 : Int) ≤ 2
    omega
  split
  · exact ⟨by decide, by decide, by decide, by decide, by decide, by decide⟩
  · have h1 := Policy.cut_lt s 5
    have h2 := Policy.cut_lt s 99
    show 0 ≤ (s.cut 5 : Int) * 9 / 10 ∧ 0 < ((s.cut 99 : Int) * 11 + 20) / 10 ∧ (s.cut 5 : Int) * 9 / 10 ≤ _ ∧ ((s.cut 99 : Int) * 11 + 20) / 10 ≤ _ ∧ (0 : Int) ≤ 1 ∧ (1 : Int) ≤ 2
    omega
structure Fn.Good (x : Fn) : Prop where
  acc : 0 ≤ x.acc ∧ x.acc < 16
  mem : 1 ≤ x.mem ∧ x.mem ≤ 4096
  cost : 1 ≤ x.cost ∧ x.cost ≤ 1000
  keep : 0 ≤ x.keep ∧ x.keep ≤ 1000
  often : 0 ≤ x.often ∧ x.often ≤ 1000
  last : -1 ≤ x.last ∧ x.last ≤ 1099511627776
  til : 0 ≤ x.til ∧ x.til ≤ 4398046511104
  hist : Histo.Ok x.hist
structure Box.Good (b : Box) : Prop where
  fn : 0 ≤ b.fn ∧ b.fn < 64
  host : 0 ≤ b.host ∧ b.host < 32
  mem : 1 ≤ b.mem ∧ b.mem ≤ 4096
  st : 0 ≤ b.st ∧ b.st ≤ 3
  since : 0 ≤ b.since ∧ b.since ≤ 1099511627776
structure Good (s : Core) : Prop where
  now : 0 ≤ s.now ∧ s.now ≤ 1099511627776
  next : 1 ≤ s.next ∧ s.next ≤ 1099511627776
  toks : ∀ a k, FM.get s.toks a = some k → 0 ≤ a ∧ a < 16 ∧ k.Ok
  fns : ∀ f x, FM.get s.fns f = some x → 0 ≤ f ∧ f < 64 ∧ x.Good
  caches : ∀ h c, FM.get s.caches h = some c → 0 ≤ h ∧ h < 32
  boxes : ∀ id b, FM.get s.boxes id = some b → b.id = id ∧ 1 ≤ id ∧ id < s.next ∧ b.Good
  til : ∀ id t, FM.get s.til id = some t → 1 ≤ id ∧ id < s.next ∧ 0 ≤ t ∧ t ≤ 4398046511104
  ans : ∀ x ∈ s.ans, 0 ≤ x ∧ x ≤ 4611686018427387904
  outs : ((s.out.length + s.boxes.length : Nat) : Int) ≤ 2 * s.next

/-- The core's state lies in memory, and its numbers are within their bounds. -/
structure St (w : World) (g : G) (s : Core) : Prop where
  mem : ∃ ov, Mem w g s ov
  good : Good s
/-- What a step of the core leaves. -/
structure To (w : World) (g : G) (s : Core) (w' : World) (g' : G) (s' : Core) : Prop where
  st : St w' g' s'
  step : Step (· ≠ .none) w g w' g'
  ad : ∀ t, Kept s t → g'.ad t = g.ad t
  kept : ∀ t, Kept s t → Kept s' t
section
variable {T : Tag → Prop} {w w' w'' : World} {g g' g'' : G} {s s' s'' : Core} {ov ov' : Value}
theorem To.refl (h : St w g s) : To w g s w g s := ⟨h, Step.refl _ _ _, fun _ _ => rfl, fun _ h => h⟩
theorem To.trans (h : To w g s w' g' s') (k : To w' g' s' w'' g'' s'') : To w g s w'' g'' s'' :=
  ⟨k.st, h.step.trans k.step, fun t ht => (k.ad t (h.kept t ht)).trans (h.ad t ht), fun t ht => k.kept t (h.kept t ht)⟩
theorem To.head (h : To w g s w' g' s') {t : Tag} (ht : Head t) : g'.ad t = g.ad t := h.ad t (ht.kept s)
theorem St.below (h : St w g s) (hb : Below w.heap.size w w') : St w' g s := ⟨h.mem.imp fun _ m => m.below hb, h.good⟩
theorem To.below (h : St w g s) (hb : Below w.heap.size w w') : To w g s w' g s := ⟨h.below hb, Step.of_below hb g _, fun _ _ => rfl, fun _ h => h⟩
theorem To.then (h : To w g s w' g' s') (hb : Below w'.heap.size w' w'') : To w g s w'' g' s' := h.trans (To.below h.st hb)
theorem To.before (hb : Below w.heap.size w w') (h : To w' g s w'' g' s') : To w g s w'' g' s' := by
  refine ⟨h.st, ?_, h.ad, h.kept⟩
  exact (Step.of_below hb g _).trans h.step
theorem Below.drewN' {w : World} (n : Nat) : Below w.heap.size w (w.drewN n) := ⟨rfl, rfl, rfl, Nat.le_refl _, fun _ _ => rfl⟩
/-- All new blocks are nobody's. -/
def G.fresh (g : G) (n : Nat) : G := ⟨g.ad, fun p => if n ≤ p then .none else g.own p⟩
theorem Lv.fresh {t : Tag} (h : Lv w g t) : Lv w (g.fresh w.heap.size) t := ⟨by unfold G.fresh; simp only; rw [if_neg (by have := h.lt; omega)]; exact h.own, h.lt⟩
theorem Step.fresh (T : Tag → Prop) (w : World) (g : G) : Step T w g w (g.fresh w.heap.size) := ⟨rfl, rfl, rfl, Nat.le_refl _, fun p hp => by unfold G.fresh; simp only; rw [if_neg (by omega)], fun _ _ _ => rfl, fun _ _ => rfl⟩
theorem Mem.fresh (m : Mem w g s ov) : Mem w (g.fresh w.heap.size) s ov := by
  have st := Step.fresh (fun _ => False) w g
  exact m.turn st s ov (fun _ _ => rfl) (core := .inl ⟨id, rfl, rfl, rfl, rfl⟩) (out := .inl ⟨id, rfl, rfl⟩) (quota := .inl ⟨id, rfl⟩) (toks := .inl ⟨⟨id, fun _ => id⟩, rfl⟩) (fns := .inl ⟨⟨id, fun _ => id, fun _ => id, fun _ => id⟩, rfl⟩) (hosts := .inl ⟨id, rfl⟩)
    (caches := .inl ⟨⟨id, fun _ => id, fun _ => id, fun _ => id, fun _ => id⟩, rfl⟩) (boxes := .inl ⟨⟨id, fun _ => id⟩, rfl⟩) (til := .inl ⟨id, rfl⟩) (timers := .inl ⟨⟨id, id, id, id⟩, rfl⟩)
theorem To.fresh (h : St w g s) : To w g s w (g.fresh w.heap.size) s := ⟨⟨h.mem.imp fun _ m => m.fresh, h.good⟩, Step.fresh _ _ _, fun _ _ => rfl, fun _ h => h⟩
theorem fresh_own {n p : Nat} (h : n ≤ p) : (g.fresh n).own p = .none := if_pos h
/-- A block that is nobody's stays as it is. -/
theorem To.block (h : To w g s w' g' s') {p : Nat} (hp : p < w.heap.size) (hn : g.own p = .none) : w'.heap[p]? = w.heap[p]? := h.step.block p hp (by rw [hn]; simp)
theorem To.blk (h : To w g s w' g' s') {p : Nat} {t : TypeId} {cs : Array Value} (hp : Blk w p t cs) (hn : g.own p = .none) : Blk w' p t cs := (h.block hp.lt hn).trans hp
theorem To.own (h : To w g s w' g' s') {p : Nat} (hp : p < w.heap.size) : g'.own p = g.own p := h.step.own p hp
/-- What a function of the core leaves. -/
def Post (v : Value) (w : World) (g : G) (s s' : Core) (e : Ending) (w' : World) : Prop := e = .returned v ∧ ∃ g', To w g s w' g' s'
theorem Post.mk {v v' : Value} {w : World} {g : G} {s s' : Core} {w' : World} (h : v' = v) (k : ∃ g', To w g s w' g' s') : Post v w g s s' (.returned v') w' := by subst h; exact ⟨rfl, k⟩
theorem w64_box (h : Good s) {id : Int} {b : Box} (hb : FM.get s.boxes id = some b) : W64 id ∧ W64 b.host ∧ W64 b.fn := by
  obtain ⟨_, h1, h2, h3⟩ := h.boxes id b hb
  have := h.next
  have := h3.host
  have := h3.fn
  exact ⟨MapI.w64 (by omega) (by omega), MapI.w64 (by omega) (by omega), MapI.w64 (by omega) (by omega)⟩
theorem w64_fn {f : Int} (h : 0 ≤ f ∧ f < 64) : W64 f := MapI.w64 (by omega) (by omega)
theorem caches_len (h : Good s) (hs : FM.Sorted s.caches) : s.caches.length ≤ 32 := FM.length_le hs fun p hp => h.caches p.1 p.2 (FM.get_of_mem hs hp)
end
end Go.Proofs.YtjmdgicdpggljaaGreat.GH

/- The numbers of quotas, hosts and tokens stay within their bounds, whatever is done to them. -/
namespace Go.Proofs.YtjmdgicdpggljaaGreat.GH
set_option linter.unusedVariables false

theorem at_ok {s : Hosts} (ok : s.Ok) (h : Int) : 0 ≤ (s.at_ h).used ∧ (s.at_ h).used ≤ (s.at_ h).size ∧ (s.at_ h).size ≤ 4096 := by
  unfold Hosts.at_
  by_cases hk : h.toNat < 32
  · exact h_ok ok hk
  · rw [List.getD_eq_getElem?_getD, List.getElem?_eq_none (by rw [ok.n]; omega)]
    simp [Mach.none]
theorem put_ok {s : Hosts} (ok : s.Ok) (h : Int) {y : Mach} (hy : 0 ≤ y.used ∧ y.used ≤ y.size ∧ y.size ≤ 4096) : (s.put h y).Ok := hok_set ok _ hy
theorem none_ok : 0 ≤ Mach.none.used ∧ Mach.none.used ≤ Mach.none.size ∧ Mach.none.size ≤ 4096 := by simp [Mach.none]
theorem sweep_ok {s : Hosts} (ok : s.Ok) (h : Int) : (s.sweep h).Ok := by
  unfold Hosts.sweep
  split
  · exact put_ok ok h none_ok
  · exact ok
theorem give_ok {s : Hosts} (ok : s.Ok) (h mem : Int) : (s.give h mem).Ok := by
  unfold Hosts.give
  split
  · next e =>
    have := at_ok ok h
    unfold Hosts.gives at e
    simp at e
    exact sweep_ok (put_ok ok h (by simp only; omega)) h
  · exact ok
theorem take_ok {s : Hosts} (ok : s.Ok) (h mem : Int) : (s.take h mem).Ok := by
  unfold Hosts.take
  split
  · next e =>
    have := at_ok ok h
    unfold Hosts.takes Hosts.up at e
    simp at e
    obtain ⟨⟨⟨e1, _⟩, e2⟩, e3⟩ := e
    unfold Hosts.free at e3
    rw [if_pos e1] at e3
    exact put_ok ok h (by simp only; omega)
  · exact ok
theorem add_ok {s : Hosts} (ok : s.Ok) (h size : Int) : (s.add h size).2.Ok := by
  unfold Hosts.add
  split
  · exact ok
  split
  · exact ok
  · exact put_ok ok h (by simp only; omega)
theorem drain_ok {s : Hosts} (ok : s.Ok) (h : Int) : (s.drain h).2.Ok := by
  unfold Hosts.drain
  split
  · exact ok
  split
  · exact ok
  · exact sweep_ok (put_ok ok h (y := { s.at_ h with drain := true }) (at_ok ok h)) h
theorem fail_ok {s : Hosts} (ok : s.Ok) (h : Int) : (s.fail h).Ok := by
  unfold Hosts.fail
  split
  · exact ok
  · exact put_ok ok h none_ok

theorem qset_ok {q : Quota} (ok : q.Ok) (k : Nat) {y : QF} (hy : 0 ≤ y.acc ∧ y.acc < 16 ∧ 0 ≤ y.res ∧ y.res ≤ 1000 ∧ 0 ≤ y.busy ∧ y.busy ≤ 1000) : Quota.Ok { q with fs := q.fs.set k y } :=
  ⟨ok.na, by simp only [List.length_set]; exact ok.nf, ok.lim, fun x hx => by
    rcases mem_set hx with rfl | hx
    · exact hy
    · exact ok.f x hx⟩
theorem f_ok {q : Quota} (ok : q.Ok) (k : Int) : 0 ≤ (q.f k).acc ∧ (q.f k).acc < 16 ∧ 0 ≤ (q.f k).res ∧ (q.f k).res ≤ 1000 ∧ 0 ≤ (q.f k).busy ∧ (q.f k).busy ≤ 1000 := by
  unfold Quota.f
  by_cases hk : k.toNat < 64
  · exact qok_f ok hk
  · rw [List.getD_eq_getElem?_getD, List.getElem?_eq_none (by rw [ok.nf]; omega)]
    simp
theorem a_ok {q : Quota} (ok : q.Ok) (k : Int) : 0 ≤ (q.a k).lim ∧ (q.a k).lim ≤ 1000 := by
  unfold Quota.a
  by_cases hk : k.toNat < 16
  · exact qok_a ok hk
  · rw [List.getD_eq_getElem?_getD, List.getElem?_eq_none (by rw [ok.na]; omega)]
    simp
theorem fin_ok {q : Quota} (ok : q.Ok) (k : Int) : (q.fin k).Ok := by
  unfold Quota.fin
  split
  · next e =>
    have := f_ok ok k
    exact qset_ok ok _ (by simp only; omega)
  · exact ok
theorem sumBy_ge (g : QF → Int) (x : Int) : ∀ (l : List QF), (∀ y ∈ l, 0 ≤ g y) → 0 ≤ Quota.sumBy g x l ∧ ∀ y ∈ l, y.there = true → y.acc = x → g y ≤ Quota.sumBy g x l
  | [], _ => ⟨Int.le_refl 0, fun y hy => by cases hy⟩
  | z :: r, h => by
    obtain ⟨h1, h2⟩ := sumBy_ge g x r fun y hy => h y (List.mem_cons_of_mem _ hy)
    have hz := h z List.mem_cons_self
    unfold Quota.sumBy
    refine ⟨by split <;> omega, fun y hy ht ha => ?_⟩
    rcases List.mem_cons.1 hy with rfl | hy
    · rw [if_pos ⟨ht, ha⟩]; omega
    · have := h2 y hy ht ha
      split <;> omega
theorem ask_known {q : Quota} {k : Int} (h : q.ask k = 0) : q.known k = true := by
  unfold Quota.ask at h
  split at h
  · cases h
  · next e => simpa using e
theorem ask_busy {q : Quota} (ok : q.Ok) {k : Int} (h : q.ask k = 0) : (q.f k).busy < (q.a (q.f k).acc).lim := by
  have hk := ask_known h
  unfold Quota.ask at h
  rw [if_neg (by rw [hk]; simp)] at h
  split at h
  · cases h
  split at h
  · cases h
  · next e =>
    unfold Quota.known at hk
    simp at hk
    have hmem : q.f k ∈ q.fs := by
      unfold Quota.f
      rw [List.getD_eq_getElem?_getD, List.getElem?_eq_getElem (by rw [ok.nf]; omega)]
      exact List.getElem_mem _
    have := (sumBy_ge (·.busy) (q.f k).acc q.fs fun y hy => (ok.f y hy).2.2.2.2.1).2 _ hmem hk.2 rfl
    unfold Quota.busy at e
    omega
theorem begin_ok {q : Quota} (ok : q.Ok) (k : Int) : (q.begin k).Ok := by
  unfold Quota.begin
  split
  · next e =>
    have := f_ok ok k
    have h1 := ask_busy ok e
    have h2 := a_ok ok (q.f k).acc
    exact qset_ok ok _ (by simp only; omega)
  · exact ok
theorem setFunc_ok {q : Quota} (ok : q.Ok) (k x r : Int) : (q.setFunc k x r).2.Ok := by
  unfold Quota.setFunc
  split
  · exact ok
  split
  · exact ok
  split
  · exact ok
  split
  · exact ok
  · have := f_ok ok k
    exact qset_ok ok _ (by simp only; omega)
theorem setAccount_ok {q : Quota} (ok : q.Ok) (x l : Int) : (q.setAccount x l).2.Ok := by
  unfold Quota.setAccount
  split
  · exact ok
  split
  · exact ok
  · refine ⟨by simp only [List.length_set]; exact ok.na, ok.nf, fun y hy => ?_, ok.f⟩
    rcases mem_set hy with rfl | hy
    · simp only; omega
    · exact ok.lim y hy
theorem bd_ok (n : Int) : 0 ≤ Bkt.bd n ∧ Bkt.bd n ≤ 1000 := by unfold Bkt.bd; omega
theorem Bkt.new_ok (s r : Int) : (Bkt.new s r).Ok := ⟨bd_ok s, bd_ok r, bd_ok s⟩
theorem Bkt.Ok.set_ {b : Bkt} (ok : b.Ok) (s r : Int) : (b.set_ s r).Ok := ⟨bd_ok s, bd_ok r, by have := bd_ok s; have := ok.t; show 0 ≤ min b.tok (Bkt.bd s) ∧ min b.tok (Bkt.bd s) ≤ 1000; omega⟩
theorem Bkt.Ok.take {b : Bkt} (ok : b.Ok) : b.take.Ok := by
  unfold Bkt.take
  split
  · exact ok
  · have := ok.t
    exact ⟨ok.s, ok.r, by simp only; omega⟩
theorem Bkt.Ok.tick {b : Bkt} (ok : b.Ok) : b.tick.Ok := ⟨ok.s, ok.r, by have := ok.t; have := ok.r; have := ok.s; show 0 ≤ min (b.tok + b.refill) b.size ∧ min (b.tok + b.refill) b.size ≤ 1000; omega⟩
end Go.Proofs.YtjmdgicdpggljaaGreat.GH
